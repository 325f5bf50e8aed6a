/- The law CodecReads: whatever the bytes and what is asked of them, it returns true. No condition. -/
import Derived.Test.YtickdmalkmgkiaaKnown
import Derived.Test.YtickdmalkmgkiaaOpen
import Derived.Lib.Strings
import Derived.ShutString
import Derived.SizedLaws
namespace Go.Proofs.Ytickdmalkmgkiaa.codecReads
open Go.ChangeShapes Go.WideShapes Go.ChangeAt Go.RowKit
open Go.ChangeMaps (open_string shut_string)

theorem own : ownKnob Try.prog.godebug = none := by kernel_rfl
theorem laidOut : laidOutB Try.prog = true := by kernel_rfl

/-- What the list that came in holds: two integers an element. -/
def IsGets (w : World) (v : Value) (L : List (Int × Int)) : Prop :=
  ∃ ao cap, v = .slice ao L.length cap ∧ L.length ≤ 9223372036854775807 ∧ ∀ i x, L[i]? = some x → ∃ b o, ao = some ⟨b, o, none⟩ ∧ b < w.heap.size ∧ w.cell? ⟨b, o + i * 2, none⟩ = some (.int .i64 x.1) ∧ w.cell? ⟨b, o + i * 2 + 1, none⟩ = some (.int .i64 x.2) ∧
    -9223372036854775808 ≤ x.1 ∧ x.1 ≤ 9223372036854775807 ∧ x.2 ≤ 9223372036854775807
set_option maxRecDepth 100000 in
theorem isGets_of {H : Type} {enc : TypeId × Value → H} {W : World} {b0 : Nat} {v : Value} {d : DataW H} {p : List MemPlace} (hv : Value.okWide Try.prog W .any b0 54 v) (h : DataW.Trod enc Try.prog W 0 (fun _ => true) true 54 v d p) : ∃ L, IsGets W v L := by
  obtain ⟨ao, len, cap, rfl, hl, hm, hn, hi⟩ := slice_structs Try.underlying54 Try.underlying59 (by kernel_rfl) (by kernel_rfl) hv h (by decide)
  obtain ⟨L, hL, hP⟩ := list_of (P := fun i (x : Int × Int) => ∃ b o, ao = some ⟨b, o, none⟩ ∧ b < W.heap.size ∧ W.cell? ⟨b, o + i * 2, none⟩ = some (.int .i64 x.1) ∧ W.cell? ⟨b, o + i * 2 + 1, none⟩ = some (.int .i64 x.2) ∧
    -9223372036854775808 ≤ x.1 ∧ x.1 ≤ 9223372036854775807 ∧ x.2 ≤ 9223372036854775807) len (fun i hi' => by
      obtain ⟨b, o, hao, hf⟩ := hi i hi'
      obtain ⟨u0, y0, m0, c0, t0⟩ := hf 0 _ rfl
      obtain ⟨u1, y1, m1, c1, t1⟩ := hf 1 _ rfl
      obtain ⟨n0, e0, _, w0⟩ := DataW.trod_int Try.underlying3 t0
      obtain ⟨n1, e1, _, w1⟩ := DataW.trod_int Try.underlying3 t1
      simp at e0 e1
      subst e0 e1
      have q0 := bounds_i64 w0
      have q1 := bounds_i64 w1
      exact ⟨(n0, n1), b, o, hao, World.block_lt_of_cell? W _ c0, c0, c1, q0.1, q0.2, q1.2⟩)
  refine ⟨L, ao, cap, by rw [hL], by rw [hL]; unfold maxLen at hm; omega, hP⟩

theorem isRd.drawn {w : World} {b : Nat} {s : ByteArray} {p : Nat} (h : isRd w b s p) (q : Nat) : isRd (w.drewN q) b s p := h.chg ((Chg.refl Nob w).drewN q) (fun e => e)
theorem at_quiet {w : World} {b : Nat} {s : ByteArray} {p n : Nat} (h : isRd w b s p) : Calls Try.prog 28 #[.pointer (some ⟨b, 0, none⟩)] (w.drewN n) fun e w'' => e = .returned (.int .i64 p) ∧ ∃ m, w'' = w.drewN m :=
  Calls.quiet_of_same ((at_any b s p (w.drewN n) (isRd.drawn h n)).mono fun _ _ ⟨he, hw⟩ => ⟨he, hw.symm⟩)
theorem left_quiet {w : World} {b : Nat} {s : ByteArray} {p n : Nat} (h : isRd w b s p) : Calls Try.prog 40 #[.pointer (some ⟨b, 0, none⟩)] (w.drewN n) fun e w'' => e = .returned (.int .i64 ((s.size : Int) - (p : Int))) ∧ ∃ m, w'' = w.drewN m :=
  Calls.quiet_of ((rleft_any b s p (w.drewN n) (isRd.drawn h n)).mono fun _ _ h => h)
theorem below_drawn {B : Nat} {a w : World} (h : Below B a w) (n : Nat) : Below B a (w.drewN n) := ⟨h.os, h.tape, h.output, h.size, h.block⟩

/-- What a fixed number's reading comes to: its value, the error, how far the reader goes. -/
def rfix (y : Int) (l : List UInt8) : Nat × Nat × Nat :=
  if okSize y = false then (0, 1, 0) else if (l.length : Int) < y then (0, 10, 0) else (leval (l.take y.toNat), 0, y.toNat)
theorem rfixed_all (b : Nat) (s : ByteArray) (p : Nat) (y : Int) (w : World) (hr : isRd w b s p) :
    Calls Try.prog 36 #[.pointer (some ⟨b, 0, none⟩), .int .i64 y] w (RdPost b s (p + (rfix y (s.data.toList.drop p)).2.2) (.int .u64 (rfix y (s.data.toList.drop p)).1) (rfix y (s.data.toList.drop p)).2.1 w) := by
  unfold rfix
  have hp := hr.1
  cases hk : okSize y with
  | false => rw [if_pos rfl]; exact (rfixed_bad b y w hk).mono fun e w' ⟨he, hw⟩ => ⟨he, by rw [← hw]; exact hr, by rw [← hw]; exact Chg.refl _ _⟩
  | true =>
    rw [if_neg (by decide), len_drop]
    by_cases hc : ((s.size - p : Nat) : Int) < y
    · rw [if_pos hc]; exact (rfixed_cut b s p y w hr hk (by omega)).mono fun e w' ⟨he, q, hw⟩ => ⟨he, by rw [hw]; exact isRd.drawn hr q, by rw [hw]; exact (Chg.refl _ _).drewN q⟩
    · rw [if_neg hc]
      have hy : 0 ≤ y := by have := (okSize_iff _).1 hk; omega
      obtain ⟨k, rfl⟩ := Int.eq_ofNat_of_zero_le hy
      rw [Int.toNat_natCast]
      exact rfixed_any b s p k w hr hk (by omega)
theorem rrfixed_all (b : Nat) (s : ByteArray) (p : Nat) (y : Int) (w : World) (hr : isRR w b s p) :
    Calls Try.prog 37 #[.pointer (some ⟨b, 0, none⟩), .int .i64 y] w (RRPost b s (p + (rfix y (s.data.toList.drop p)).2.2) (.int .u64 (rfix y (s.data.toList.drop p)).1) (rfix y (s.data.toList.drop p)).2.1 w) := by
  unfold rfix
  have hp := hr.1
  cases hk : okSize y with
  | false => rw [if_pos rfl]; exact (rrfixed_bad b y w hk).mono fun e w' ⟨he, hw⟩ => ⟨he, by rw [← hw]; exact hr, by rw [← hw]; exact Chg.refl _ _⟩
  | true =>
    rw [if_neg (by decide), len_drop]
    by_cases hc : ((s.size - p : Nat) : Int) < y
    · rw [if_pos hc]; exact (rrfixed_cut b s p y w hr hk (by omega)).mono fun e w' ⟨he, q, hw⟩ => ⟨he, by rw [hw]; exact hr.drawn q, by rw [hw]; exact (Chg.refl _ _).drewN q⟩
    · rw [if_neg hc]
      have hy : 0 ≤ y := by have := (okSize_iff _).1 hk; omega
      obtain ⟨k, rfl⟩ := Int.eq_ofNat_of_zero_le hy
      rw [Int.toNat_natCast]
      exact rrfixed_any b s p k w hr hk (by omega)

def pk (c : Int) : Int := (if c < 0 then -(c + 1) else c) % 4

def RdRel (w : World) (s : ByteArray) (r q : Nat) (L : List (Int × Int)) (i : Value) (wr : World) : Prop :=
  ∃ (k p : Nat), i = .int .i64 k ∧ k ≤ L.length ∧ isRd wr r s p ∧ isRR wr q s p ∧ Below w.heap.size w wr

set_option maxRecDepth 100000 in
set_option maxHeartbeats 4000000 in
theorem walk (a0 : ByteArray) (w0 : a0.size ≤ maxLen) (v : Value) (L : List (Int × Int)) (w : World) (hv : IsGets w v L) :
    Calls Try.prog 9 #[.string a0, v] w fun e w' => e = .returned (.bool true) ∧ Below w.heap.size w w' := by
  have hl0 : a0.size ≤ 9223372036854775807 := by simpa [maxLen] using w0
  clear w0
  obtain ⟨ao, cap, rfl, hLm, hcells⟩ := hv
  have Hcells := Lib.hid hcells
  clear hcells
  go_enter Try.func9, Try.ntmps9
  go_wp2_with fail
  (with_reducible refine (read_any _ _).mono ?_)
  rintro e w1 ⟨rfl, hw1⟩
  have hr1 : isRd w1 w.heap.size a0 0 := ⟨Nat.zero_le _, hl0, by rw [hw1]; exact heap_alloc_new w _⟩
  have hc1 : Chg Nob w w1 := by rw [hw1]; exact (Chg.refl _ _).alloc _
  have hz1 : w.heap.size < w1.heap.size := hr1.lt
  clear hw1
  go_wp2_with fail
  (with_reducible refine (known_any _).mono ?_)
  rintro e w3 ⟨rfl, hc3⟩
  have hq3 : isRR w3 w1.heap.size a0 0 := by
    have h1 : isRR (w1.alloc (.cells #[.string a0, .int .i64 0] 57)) w1.heap.size a0 0 := ⟨Nat.zero_le _, hl0, heap_alloc_new w1 _⟩
    exact h1.chg hc3 (fun e => e)
  have hr3 : isRd w3 w.heap.size a0 0 := (hr1.chg ((Chg.refl Nob w1).alloc _) (fun e => e)).chg hc3 (fun e => e)
  have hc03 : Below w.heap.size w w3 := ((hc1.alloc _).trans1 hc3).toBelow
  clear hc3
  go_wp2_with fail
  go_loopw [7] (fun i wr => RdRel w a0 w.heap.size w1.heap.size L i wr) (fun i _ => L.length - (intOf i).toNat)
  case atStart => exact ⟨0, 0, rfl, Nat.zero_le _, hr3, hq3, hc03⟩
  case round =>
    clear hr3 hq3 hc03
    obtain ⟨k, p, rfl, hk, hr, hq, hb⟩ := hrel
    by_cases hlt : k < L.length
    · obtain ⟨x, hx⟩ : ∃ x, L[k]? = some x := ⟨_, List.getElem?_eq_getElem hlt⟩
      obtain ⟨b, o, hao, hbl, c0, c1, x0, x1, x2⟩ := Hcells.out k x hx
      clear hx
      obtain ⟨x, y⟩ := x
      simp only at c0 c1 x0 x1 x2
      have c0r : wr.cell? ⟨b, o + k * 2, none⟩ = some (.int .i64 x) := by rw [hb.cell hbl]; exact c0
      have c1r : wr.cell? ⟨b, o + k * 2 + 1, none⟩ = some (.int .i64 y) := by rw [hb.cell hbl]; exact c1
      clear c0 c1
      subst hao
      obtain ⟨m, hm, hm4⟩ : ∃ m : Int, pk x = m ∧ (m = 0 ∨ m = 1 ∨ m = 2 ∨ m = 3) := ⟨pk x, rfl, by unfold pk; split <;> omega⟩
      have hpick : ∀ w, Calls Try.prog 22 #[.int .i64 x, .int .i64 4] w fun e w' => e = .returned (.int .i64 m) ∧ w = w' := by
        intro w; rw [← hm]; exact pick_any x 4 w x0 x1 (by decide) (by decide)
      have Hpick := Lib.hid hpick
      clear hpick hm
      have hrb := hr.lt
      have hqb := hq.lt
      have Hsep : Hid (∀ w4, Chg (At1 w.heap.size) wr w4 → isRR w4 w1.heap.size a0 p ∧ Below w.heap.size w w4) := fun w4 h =>
        ⟨hq.chg h (fun e => by have e2 : w1.heap.size = w.heap.size := e; omega), hb.trans (h.below (by omega) (fun i _ e => by have e2 : i = w.heap.size := e; omega))⟩
      have Hsep2 : Hid (∀ w4 w5 p', isRd w4 w.heap.size a0 p' → Below w.heap.size w w4 → Chg (At1 w1.heap.size) w4 w5 → isRd w5 w.heap.size a0 p' ∧ Below w.heap.size w w5) := fun w4 w5 p' h1 h2 h3 =>
        ⟨h1.chg h3 (fun e => by have e2 : w.heap.size = w1.heap.size := e; omega), h2.trans (h3.below (by have := h2.size; omega) (fun i _ e => by have e2 : i = w1.heap.size := e; omega))⟩
      rcases hm4 with rfl | rfl | rfl | rfl
      · go_wp2_with fail
        (with_reducible refine (Hpick.out _).mono ?_)
        rintro e w4 ⟨rfl, rfl⟩
        go_wp2_with fail
        have h1 := ruint_any _ _ _ _ hr
        (with_reducible refine h1.mono ?_)
        clear h1
        rintro e w4 ⟨rfl, hr4, hc4⟩
        obtain ⟨hq4, hb4⟩ := Hsep.out w4 hc4
        go_wp2_with fail
        have h1 := rruint_any _ _ _ _ hq4
        (with_reducible refine h1.mono ?_)
        clear h1
        rintro e w6 ⟨rfl, hq6, hc6⟩
        obtain ⟨hr6, hb6⟩ := Hsep2.out w4 w6 _ hr4 hb4 hc6
        clear hr4 hc4 hq4 hb4 hc6 hr hq hb c0r c1r
        generalize p + (rd 0 0 (List.drop p a0.data.toList)).2.1 = p' at hr6 hq6
        generalize rd 0 0 (List.drop p a0.data.toList) = rr
        have hw0 := hr6.1
        have hw2 : IntKind.i64.wrap ((a0.size : Int) - (p' : Int)) = (a0.size : Int) - (p' : Int) := by apply IntWalk.i64_in; omega
        obtain ⟨_, _, hbq⟩ := hq6
        obtain ⟨d0, d1, g0, g1⟩ := cell_two hbq
        have Hbq := Lib.hid hbq
        clear hbq
        go_wp2_with fail
        go_quiet ((first | (go_at_call 28; exact at_quiet (hr6)) | (go_at_call 40; exact left_quiet (hr6))))
        clear hw2
        go_wp2_with fail
        go_roundw
        case rel => exact ⟨k + 1, p', by go_num, by omega, isRd.drawn hr6 _, ⟨hw0, hl0, Hbq.out⟩, below_drawn hb6 _⟩
        case measure => simp [intOf]; omega
      · go_wp2_with fail
        (with_reducible refine (Hpick.out _).mono ?_)
        rintro e w4 ⟨rfl, rfl⟩
        go_wp2_with fail
        have h1 := rint_any _ _ _ _ hr
        (with_reducible refine h1.mono ?_)
        clear h1
        rintro e w4 ⟨rfl, hr4, hc4⟩
        obtain ⟨hq4, hb4⟩ := Hsep.out w4 hc4
        go_wp2_with fail
        have h1 := rrint_any _ _ _ _ hq4
        (with_reducible refine h1.mono ?_)
        clear h1
        rintro e w6 ⟨rfl, hq6, hc6⟩
        obtain ⟨hr6, hb6⟩ := Hsep2.out w4 w6 _ hr4 hb4 hc6
        clear hr4 hc4 hq4 hb4 hc6 hr hq hb c0r c1r
        generalize p + (rd 0 0 (List.drop p a0.data.toList)).2.1 = p' at hr6 hq6
        generalize rd 0 0 (List.drop p a0.data.toList) = rr
        have hw0 := hr6.1
        have hw2 : IntKind.i64.wrap ((a0.size : Int) - (p' : Int)) = (a0.size : Int) - (p' : Int) := by apply IntWalk.i64_in; omega
        obtain ⟨_, _, hbq⟩ := hq6
        obtain ⟨d0, d1, g0, g1⟩ := cell_two hbq
        have Hbq := Lib.hid hbq
        clear hbq
        go_wp2_with fail
        go_quiet ((first | (go_at_call 28; exact at_quiet (hr6)) | (go_at_call 40; exact left_quiet (hr6))))
        clear hw2
        go_wp2_with fail
        go_roundw
        case rel => exact ⟨k + 1, p', by go_num, by omega, isRd.drawn hr6 _, ⟨hw0, hl0, Hbq.out⟩, below_drawn hb6 _⟩
        case measure => simp [intOf]; omega
      · go_wp2_with fail
        (with_reducible refine (Hpick.out _).mono ?_)
        rintro e w4 ⟨rfl, rfl⟩
        go_wp2_with fail
        have h1 := rfixed_all _ _ _ y _ hr
        (with_reducible refine h1.mono ?_)
        clear h1
        rintro e w4 ⟨rfl, hr4, hc4⟩
        obtain ⟨hq4, hb4⟩ := Hsep.out w4 hc4
        have c1s : w4.cell? ⟨b, o + k * 2 + 1, none⟩ = some (.int .i64 y) := by rw [hb4.cell hbl, ← hb.cell hbl]; exact c1r
        go_wp2_with fail
        have h1 := rrfixed_all _ _ _ y _ hq4
        (with_reducible refine h1.mono ?_)
        clear h1
        rintro e w6 ⟨rfl, hq6, hc6⟩
        obtain ⟨hr6, hb6⟩ := Hsep2.out w4 w6 _ hr4 hb4 hc6
        clear hr4 hc4 hq4 hb4 hc6 hr hq hb c0r c1r c1s
        generalize p + (rfix y (List.drop p a0.data.toList)).2.2 = p' at hr6 hq6
        generalize rfix y (List.drop p a0.data.toList) = rr
        have hw0 := hr6.1
        have hw2 : IntKind.i64.wrap ((a0.size : Int) - (p' : Int)) = (a0.size : Int) - (p' : Int) := by apply IntWalk.i64_in; omega
        obtain ⟨_, _, hbq⟩ := hq6
        obtain ⟨d0, d1, g0, g1⟩ := cell_two hbq
        have Hbq := Lib.hid hbq
        clear hbq
        go_wp2_with fail
        go_quiet ((first | (go_at_call 28; exact at_quiet (hr6)) | (go_at_call 40; exact left_quiet (hr6))))
        clear hw2
        go_wp2_with fail
        go_roundw
        case rel => exact ⟨k + 1, p', by go_num, by omega, isRd.drawn hr6 _, ⟨hw0, hl0, Hbq.out⟩, below_drawn hb6 _⟩
        case measure => simp [intOf]; omega
      · go_wp2_with fail
        (with_reducible refine (Hpick.out _).mono ?_)
        rintro e w4 ⟨rfl, rfl⟩
        go_wp2_with fail
        have h1 := rtext_any _ _ _ y _ hr x2
        (with_reducible refine h1.mono ?_)
        clear h1
        rintro e w4 ⟨rfl, hr4, hc4⟩
        obtain ⟨hq4, hb4⟩ := Hsep.out w4 hc4
        have c1s : w4.cell? ⟨b, o + k * 2 + 1, none⟩ = some (.int .i64 y) := by rw [hb4.cell hbl, ← hb.cell hbl]; exact c1r
        go_wp2_with fail
        have h1 := rrtext_any _ _ _ y _ hq4 x2
        (with_reducible refine h1.mono ?_)
        clear h1
        rintro e w6 ⟨rfl, hq6, hc6⟩
        obtain ⟨hr6, hb6⟩ := Hsep2.out w4 w6 _ hr4 hb4 hc6
        clear hr4 hc4 hq4 hb4 hc6 hr hq hb c0r c1r c1s
        generalize p + (rtext y (List.drop p a0.data.toList)).2.2 = p' at hr6 hq6
        generalize rtext y (List.drop p a0.data.toList) = rr
        have hw0 := hr6.1
        have hw2 : IntKind.i64.wrap ((a0.size : Int) - (p' : Int)) = (a0.size : Int) - (p' : Int) := by apply IntWalk.i64_in; omega
        obtain ⟨_, _, hbq⟩ := hq6
        obtain ⟨d0, d1, g0, g1⟩ := cell_two hbq
        have Hbq := Lib.hid hbq
        clear hbq
        go_wp2_with fail
        go_quiet ((first | (go_at_call 28; exact at_quiet (hr6)) | (go_at_call 40; exact left_quiet (hr6))))
        clear hw2
        go_wp2_with fail
        go_roundw
        case rel => exact ⟨k + 1, p', by go_num, by omega, isRd.drawn hr6 _, ⟨hw0, hl0, Hbq.out⟩, below_drawn hb6 _⟩
        case measure => simp [intOf]; omega
    · go_wp2_with fail
      go_ret
      exact ⟨rfl, hb⟩

set_option maxRecDepth 100000 in
theorem lifted (os : Os) (started : os.Started) (H : Type) (enc : TypeId × Value → H) :
    ReturnsInHanded {} Try.checked os 9 .any (Rows.codecReadsSpec.pre6 enc Try.prog Try.f9 Rows.codecReadsRow.domain false) (Rows.codecReadsSpec.post enc Try.prog Try.f9 false true false false) := by
  refine returnsInHanded_of_change_sized (C := Try.checked) own started (by kernel_rfl) Try.func9
    (ChangeSpec.witness6 (enc := enc) (C := Try.checked) false ⟨#[], #[.string ByteArray.empty, .slice none 0 0], []⟩ 8 (by kernel_rfl) (by kernel_rfl) (by kernel_rfl) (by kernel_rfl)) ?_
  intro W base args ds gs before hval0 hW hcnd hsz0 _
  have hval : ∀ (j : Nat) t v, Try.f9.params[j]? = some t → args[j]? = some v → Value.okWide Try.prog W .any base t v := hval0
  have hsz : (DataW.weightsEach Try.prog (Try.f9.params.toList ++ Rows.codecReadsSpec.plain.varTypes Try.prog) (ds ++ gs)).all (· ≤ reachBytes) = true := hsz0
  have hW' := hW
  obtain ⟨p, q, hA0, hV, rfl, hfz, hnd⟩ := hW
  have hA : DataW.TrodAll enc Try.prog W 0 (fun _ => true) true Try.f9.params.toList args.toList ds p := hA0
  rw [Try.params9] at hA hval hsz
  obtain ⟨v0, vs0, d0, ds0, p0, q0, hargs, rfl, rfl, h0, r0⟩ := trodAll_cons hA
  obtain ⟨v1, vs1, d1, ds1, p1, q1, rfl, rfl, rfl, h1, r1⟩ := trodAll_cons r0
  obtain ⟨rfl, rfl, rfl⟩ := trodAll_nil r1
  obtain rfl : args = #[v0, v1] := by cases args; simp_all
  obtain ⟨rfl, rfl⟩ := trodVars_none hV
  have k0 := h0
  have lt0 : ∀ x ∈ p0, x.block < W.heap.size := by obtain ⟨m, hm⟩ := k0; exact DataW.trod_lt m _ _ _ hm
  have k1 := h1
  have lt1 : ∀ x ∈ p1, x.block < W.heap.size := by obtain ⟨m, hm⟩ := k1; exact DataW.trod_lt m _ _ _ hm
  obtain ⟨a0, rfl, rfl, _, w0⟩ := open_string Try.underlying9 (hval 0 9 v0 rfl rfl) h0
  obtain ⟨l1, hl1⟩ := isGets_of (hval 1 54 v1 rfl rfl) h1
  clear hA0 hval0
  refine (walk a0 w0 v1 l1 W hl1).mono fun e W' ⟨he, bel⟩ => ?_
  subst he
  exact ⟨_, rfl, _, _, _, [], _, [], hW', trodAll_mk1 (shut_bool Try.underlying4 _), (trodAll_cons_mk (Below.trod laidOut (by kernel_rfl) (of_decide_eq_true (by kernel_rfl)) k0 bel lt0) (trodAll_cons_mk (Below.trod laidOut (by kernel_rfl) (of_decide_eq_true (by kernel_rfl)) k1 bel lt1) trodAll_mk0)), rfl, bel.frame _, fun h => by cases h⟩

theorem over : Rows.codecReadsRow.holds Try.pinned (OpenSpec.ofChange Rows.codecReadsSpec) :=
  OpenClaim.holds_of_wide 9 Try.f9 rfl rfl rfl rfl rfl rfl rfl ⟨rfl, rfl, rfl, rfl, rfl⟩ rfl rfl rfl rfl rfl (by kernel_rfl) Try.func9 (by kernel_rfl)
    (of_decide_eq_true (by kernel_rfl)) (by unfold Func.isWrapper; rw [if_neg (of_decide_eq_false (by kernel_rfl))]; exact ⟨rfl, rfl⟩)
    (fun os started H enc _ => lifted os started H enc)

theorem proved : Rows.CodecReadsSaid :=
  over

end Go.Proofs.Ytickdmalkmgkiaa.codecReads
