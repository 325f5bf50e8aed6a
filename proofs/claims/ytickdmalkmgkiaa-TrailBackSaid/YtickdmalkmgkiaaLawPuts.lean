/- The law CodecPuts: whatever the room and what is put, it returns true. No condition. -/
import Derived.Test.YtickdmalkmgkiaaDoes
import Derived.Test.YtickdmalkmgkiaaRegion
import Derived.ShutString
namespace Go.Proofs.Ytickdmalkmgkiaa.codecPuts
open Go.ChangeShapes Go.WideShapes Go.ChangeAt Go.RowKit
open Go.ChangeMaps (open_string shut_string)

theorem own : ownKnob Try.prog.godebug = none := by kernel_rfl
theorem laidOut : laidOutB Try.prog = true := by kernel_rfl

/-- An element of the list that came in: a kind, a number, a size, a text; its cells. -/
def PutAt (W : World) (ao : Option Addr) (i : Nat) (x : Int × Nat × Int × ByteArray) : Prop :=
  ∃ b o, ao = some ⟨b, o, none⟩ ∧ b < W.heap.size ∧ W.cell? ⟨b, o + i * 4, none⟩ = some (.int .i64 x.1) ∧ W.cell? ⟨b, o + i * 4 + 1, none⟩ = some (.int .u64 x.2.1) ∧ W.cell? ⟨b, o + i * 4 + 2, none⟩ = some (.int .i64 x.2.2.1) ∧ W.cell? ⟨b, o + i * 4 + 3, none⟩ = some (.string x.2.2.2) ∧
    -9223372036854775808 ≤ x.1 ∧ x.1 ≤ 9223372036854775807 ∧ x.2.1 ≤ 18446744073709551615 ∧ x.2.2.2.size ≤ 140737488351232
def IsPuts (w : World) (v : Value) (L : List (Int × Nat × Int × ByteArray)) : Prop :=
  ∃ ao cap, v = .slice ao L.length cap ∧ L.length ≤ 9223372036854775807 ∧ ∀ i x, L[i]? = some x → PutAt w ao i x
set_option maxRecDepth 100000 in
theorem isPuts_of {H : Type} {enc : TypeId × Value → H} {W : World} {b0 : Nat} {v : Value} {d : DataW H} {p : List MemPlace} (hv : Value.okWide Try.prog W .any b0 66 v) (h : DataW.Trod enc Try.prog W 0 (fun _ => true) true 66 v d p)
    (hw : ∀ k, k ∈ d.weights Try.prog 66 → k ≤ reachBytes) : ∃ L, IsPuts W v L := by
  obtain ⟨ao, len, cap, rfl, hl, hm, _, hn, hi⟩ := slice_structs_sized Try.underlying66 Try.underlying71 (by kernel_rfl) (by kernel_rfl) hv h (by decide) hw
  obtain ⟨L, hL, hP⟩ := list_of (P := PutAt W ao) len (fun i hi' => by
      obtain ⟨b, o, hao, hf⟩ := hi i hi'
      obtain ⟨u0, y0, m0, c0, t0, _⟩ := hf 0 _ rfl
      obtain ⟨u1, y1, m1, c1, t1, _⟩ := hf 1 _ rfl
      obtain ⟨u2, y2, m2, c2, t2, _⟩ := hf 2 _ rfl
      obtain ⟨u3, y3, m3, c3, t3, z3⟩ := hf 3 _ rfl
      obtain ⟨n0, e0, _, w0⟩ := DataW.trod_int Try.underlying3 t0
      obtain ⟨n1, e1, _, w1⟩ := DataW.trod_int Try.underlying39 t1
      obtain ⟨n2, e2, _, w2⟩ := DataW.trod_int Try.underlying3 t2
      obtain ⟨s3, e3, hy3, _⟩ := DataW.trod_string Try.underlying9 t3
      simp at e0 e1 e2 e3
      subst e0 e1 e2 e3
      have q0 := bounds_i64 w0
      have q1 := bounds_u64 w1
      have q3 := z3 s3.data.toList.length (by rw [hy3]; simp [DataW.weights])
      have hs3 : s3.data.toList.length = s3.size := by rw [Array.length_toList]; rfl
      rw [hs3] at q3
      obtain ⟨m, rfl⟩ := Int.eq_ofNat_of_zero_le q1.1
      exact ⟨(n0, m, n2, s3), b, o, hao, World.block_lt_of_cell? W _ c0, c0, c1, c2, c3, q0.1, q0.2, by show m ≤ 18446744073709551615; have h1 := q1.2; omega, by rw [show reachBytes = 140737488351232 from rfl] at q3; exact q3⟩)
  refine ⟨L, ao, cap, by rw [hL], by rw [hL]; unfold maxLen at hm; omega, hP⟩

theorem does_any (B b r : Nat) (l : List UInt8) (room : Nat) (x : Int) (n : Nat) (k : Int) (s : ByteArray) (w : World) (x0 : -9223372036854775808 ≤ x) (x1 : x ≤ 9223372036854775807) (hn : n ≤ 18446744073709551615) (hs : s.size ≤ 140737488351232)
    (hB : B ≤ w.heap.size) (hbr : b ≠ r) (hrB : r < B) (hbuf : isBuf w B b l room) (hrb : isRB w r l room) :
    Calls Try.prog 42 #[.pointer (some ⟨b, 0, none⟩), .pointer (some ⟨r, 0, none⟩), .agg #[.int .i64 x, .int .u64 n, .int .i64 k, .string s]] w (DoesPost B b r room w) := by
  have h5 : (if x < 0 then -(x + 1) else x) % 5 = 0 ∨ (if x < 0 then -(x + 1) else x) % 5 = 1 ∨ (if x < 0 then -(x + 1) else x) % 5 = 2 ∨ (if x < 0 then -(x + 1) else x) % 5 = 3 ∨ (if x < 0 then -(x + 1) else x) % 5 = 4 := by split <;> omega
  rcases h5 with h | h | h | h | h
  · exact does0 B b r l room x n k s w x0 x1 hn hs h hB hbr hrB hbuf hrb
  · exact does1 B b r l room x n k s w x0 x1 hn hs h hB hbr hrB hbuf hrb
  · cases ho : okSize k with
    | false => exact does2bad B b r l room x n k s w x0 x1 hn hs h hB hbr hrB ho hbuf hrb
    | true => exact does2 B b r l room x n k s w x0 x1 hn hs h hB hbr hrB ho hbuf hrb
  · exact does3 B b r l room x n k s w x0 x1 hn hs h hB hbr hrB hbuf hrb
  · exact does4 B b r l room x n k s w x0 x1 hn hs h hB hbr hrB hbuf hrb

theorem string_quiet {w : World} {B b room n : Nat} {l : List UInt8} (h : isBuf w B b l room) : Calls Try.prog 27 #[.pointer (some ⟨b, 0, none⟩)] (w.drewN n) fun e w'' => e = .returned (.string ⟨l.toArray⟩) ∧ ∃ m, w'' = w.drewN m :=
  Calls.quiet_of_same ((string_any B b l room (w.drewN n) (h.nob ((Chg.refl Nob w).drewN n))).mono fun _ _ ⟨he, hw⟩ => ⟨he, hw.symm⟩)
theorem len_quiet {w : World} {B b room n : Nat} {l : List UInt8} (h : isBuf w B b l room) : Calls Try.prog 29 #[.pointer (some ⟨b, 0, none⟩)] (w.drewN n) fun e w'' => e = .returned (.int .i64 l.length) ∧ ∃ m, w'' = w.drewN m :=
  Calls.quiet_of_same ((len_any B b l room (w.drewN n) (h.nob ((Chg.refl Nob w).drewN n))).mono fun _ _ ⟨he, hw⟩ => ⟨he, hw.symm⟩)
theorem bleft_quiet {w : World} {B b room n : Nat} {l : List UInt8} (h : isBuf w B b l room) : Calls Try.prog 30 #[.pointer (some ⟨b, 0, none⟩)] (w.drewN n) fun e w'' => e = .returned (.int .i64 ((room : Int) - (l.length : Int))) ∧ ∃ m, w'' = w.drewN m := by
  have e : ((room : Int) - (l.length : Int)) = ((room - l.length : Nat) : Int) := by have := h.1; omega
  rw [e]
  exact Calls.quiet_of ((left_any B b l room (w.drewN n) (h.nob ((Chg.refl Nob w).drewN n))).mono fun _ _ h => h)

def PutRel (w : World) (B b r : Nat) (n : Nat) (room : Nat) (i : Value) (wr : World) : Prop :=
  ∃ (k : Nat) (l : List UInt8), i = .int .i64 k ∧ k ≤ n ∧ isBuf wr B b l room ∧ isRB wr r l room ∧ Below w.heap.size w wr ∧ B ≤ wr.heap.size

set_option maxRecDepth 100000 in
set_option maxHeartbeats 4000000 in
theorem walk (a0 : Int) (_w0 : (Lit.int .i64 a0).wf = true) (v : Value) (L : List (Int × Nat × Int × ByteArray)) (w : World) (hv : IsPuts w v L) :
    Calls Try.prog 10 #[.int .i64 a0, v] w fun e w' => e = .returned (.bool true) ∧ Below w.heap.size w w' := by
  obtain ⟨ao, cap, rfl, hLm, hcells⟩ := hv
  have Hcells := Lib.hid hcells
  clear hcells
  obtain ⟨room, hroom⟩ : ∃ room, roomOf a0 = room := ⟨_, rfl⟩
  have Hroom := Lib.hid hroom
  clear hroom
  go_enter Try.func10, Try.ntmps10
  go_wp2_with fail
  (with_reducible refine (new_any _ _).mono ?_)
  rintro e w1 ⟨rfl, hnew, hc1, hz1e⟩
  have hz1 : w.heap.size < w1.heap.size := by omega
  clear hz1e
  rw [Hroom.out] at hnew
  go_wp2_with fail
  (with_reducible refine (New_any _ _).mono ?_)
  rintro e w2 ⟨rfl, hr2, hc2, hz2e⟩
  have hz2 : w1.heap.size < w2.heap.size := by omega
  clear hz2e
  rw [Hroom.out] at hr2
  go_wp2_with fail
  (with_reducible refine (known_any _).mono ?_)
  rintro e w3 ⟨rfl, hc3⟩
  have hb3 : isBuf w3 w3.heap.size w.heap.size [] room := ((hnew.chg hc2 (fun e => e)).chg hc3 (fun e => e)).buf _
  have hr3 := hr2.chg hc3 (fun e => e)
  have hc03 : Below w.heap.size w w3 := ((hc1.trans1 hc2).trans1 hc3).toBelow
  have hz3 : w1.heap.size < w3.heap.size := hr3.lt
  clear hnew hc1 hr2 hc2 hc3 hz2
  go_wp2_with fail
  go_loopw [7] (fun i wr => PutRel w w3.heap.size w.heap.size w1.heap.size L.length room i wr) (fun i _ => L.length - (intOf i).toNat)
  case atStart => exact ⟨0, [], rfl, Nat.zero_le _, hb3, hr3, hc03, Nat.le_refl _⟩
  case round =>
    clear hb3 hr3 hc03
    obtain ⟨k, l, rfl, hk, hb, hr, hbel, hBw⟩ := hrel
    have Hb := Lib.hid hb
    have Hr := Lib.hid hr
    clear hb hr
    by_cases hlt : k < L.length
    · obtain ⟨x, hx⟩ : ∃ x, L[k]? = some x := ⟨_, List.getElem?_eq_getElem hlt⟩
      obtain ⟨b, o, hao, hbl, c0, c1, c2, c3, x0, x1, xn, xs⟩ := Hcells.out k x hx
      clear hx
      obtain ⟨x, n, y, s⟩ := x
      simp only at c0 c1 c2 c3 x0 x1 xn xs
      have d0 : wr.cell? ⟨b, o + k * 4, none⟩ = some (.int .i64 x) := by rw [hbel.cell hbl]; exact c0
      have d1 : wr.cell? ⟨b, o + k * 4 + 1, none⟩ = some (.int .u64 n) := by rw [hbel.cell hbl]; exact c1
      have d2 : wr.cell? ⟨b, o + k * 4 + 2, none⟩ = some (.int .i64 y) := by rw [hbel.cell hbl]; exact c2
      have d3 : wr.cell? ⟨b, o + k * 4 + 3, none⟩ = some (.string s) := by rw [hbel.cell hbl]; exact c3
      clear c0 c1 c2 c3
      subst hao
      have hki : (k : Int) < (L.length : Int) := by omega
      have hk0 : (0 : Int) ≤ (k : Int) := by omega
      have Hx := Lib.hid (And.intro x0 (And.intro x1 (And.intro xn xs)))
      clear x0 x1 xn xs
      go_wp2_with fail
      have hbW : b < w.heap.size := hbl
      have hdoes : ∀ W, w3.heap.size ≤ W.heap.size → isBuf W w3.heap.size w.heap.size l room → isRB W w1.heap.size l room → Calls Try.prog 42 #[.pointer (some ⟨w.heap.size, 0, none⟩), .pointer (some ⟨w1.heap.size, 0, none⟩), .agg #[.int .i64 x, .int .u64 n, .int .i64 y, .string s]] W (DoesPost w3.heap.size w.heap.size w1.heap.size room W) :=
        fun W h1 h2 h3 => does_any w3.heap.size w.heap.size w1.heap.size l room x n y s W Hx.out.1 Hx.out.2.1 Hx.out.2.2.1 Hx.out.2.2.2 h1 (by omega) (by omega) h2 h3
      have Hdoes := Lib.hid hdoes
      clear hdoes
      have hn5 : Hid (¬ DoesC w3.heap.size w.heap.size w1.heap.size b) := by show ¬ _; rintro (h | h | h) <;> omega
      refine wp_region_held_drew (S := fun w' => w'.cell? ⟨b, o + k * 4, none⟩ = some (.int .i64 x) ∧ w'.cell? ⟨b, o + k * 4 + 1, none⟩ = some (.int .u64 n) ∧ w'.cell? ⟨b, o + k * 4 + 2, none⟩ = some (.int .i64 y) ∧ w'.cell? ⟨b, o + k * 4 + 3, none⟩ = some (.string s)) (by kernel_rfl) ⟨d0, d1, d2, d3⟩ (fun hHeld => ?_)
      refine wpAnyH_take (i := 0) (v := ?v0) rfl (by kernel_rfl) (by kernel_rfl) (by kernel_rfl) (fun _ _ _ h => h) (Or.inl ⟨by rfl, ?y0⟩) hHeld ?_
      case y0 => intro w hSw; obtain ⟨d0, d1, d2, d3⟩ := hSw; go_simp; try (with_reducible rfl)
      simp only [Act.put, List.setIfInBounds_toArray]
      refine wpAnyH_take (i := 1) (v := ?v1) rfl (by kernel_rfl) (by kernel_rfl) (by kernel_rfl) (fun _ _ _ h => h) (Or.inl ⟨by rfl, ?y1⟩) hHeld ?_
      case y1 => intro w hSw; obtain ⟨d0, d1, d2, d3⟩ := hSw; go_simp; try (with_reducible rfl)
      simp only [Act.put]
      refine wpAnyH_take (i := 2) (v := ?v2) rfl (by kernel_rfl) (by kernel_rfl) (by kernel_rfl) (fun _ _ _ h => h) (Or.inl ⟨by rfl, ?y2⟩) hHeld ?_
      case y2 => intro w hSw; obtain ⟨d0, d1, d2, d3⟩ := hSw; go_simp; try (with_reducible rfl)
      simp only [Act.put]
      refine wpAnyH_take (i := 3) (v := ?v3) rfl (by kernel_rfl) (by kernel_rfl) (by kernel_rfl) (fun _ _ _ h => h) (Or.inl ⟨by rfl, ?y3⟩) hHeld ?_
      case y3 => intro w hSw; obtain ⟨d0, d1, d2, d3⟩ := hSw; go_simp; try (with_reducible rfl)
      simp only [Act.put]
      refine wpAnyH_take (i := 4) (v := ?v4) rfl (by kernel_rfl) (by kernel_rfl) (by kernel_rfl) (fun _ _ _ h => h) (Or.inl ⟨by rfl, ?y4⟩) hHeld ?_
      case y4 => intro w hSw; obtain ⟨d0, d1, d2, d3⟩ := hSw; go_simp; try (with_reducible rfl)
      simp only [Act.put]
      refine wpAnyH_take (i := 5) (v := ?v5) rfl (by kernel_rfl) (by kernel_rfl) (by kernel_rfl) (fun _ _ _ h => h) (Or.inl ⟨by rfl, ?y5⟩) hHeld ?_
      case y5 => intro w hSw; obtain ⟨d0, d1, d2, d3⟩ := hSw; go_simp; try (with_reducible rfl)
      simp only [Act.put]
      refine wpAnyH_ready (rs := [6]) (by kernel_rfl) (by simp) ?_
      refine AllReadyH.cons rfl (fun K hK => ?_) AllReadyH.nil
      go_simp
      refine (Hdoes.out _ (by exact hBw) (by exact Hb.out) (by exact Hr.out)).mono ?_
      rintro e w5 ⟨rfl, hc5, l5, hb5, hr5⟩
      have s5 := And.intro (hc5.cell' d0 hn5.out) (And.intro (hc5.cell' d1 hn5.out) (And.intro (hc5.cell' d2 hn5.out) (hc5.cell' d3 hn5.out)))
      refine hK.out _ _ s5 (fun _ => ?_)
      have hq1 : IntKind.i64.wrap ((room : Int) - (l5.length : Int)) = (room : Int) - (l5.length : Int) := by apply IntWalk.i64_in; have h1 := hb5.2.1; have h2 := hb5.1; omega
      obtain ⟨f0, f1, g0, g1⟩ := cell_two hr5.2.2
      have Hr5 := Lib.hid hr5
      have Hsz5 := Lib.hid hc5.size
      have hb3l := hbel.size
      have Hbel5 : Hid (∀ q, Below w.heap.size w (w5.drewN q)) := fun q => (hbel.drew.trans (hc5.below (B := w.heap.size) (by show w.heap.size ≤ wr.heap.size; omega) (fun i _ e => by rcases e with e | e | e <;> omega))).mono (Nat.le_refl _) |> fun h => ⟨h.os, h.tape, h.output, h.size, h.block⟩
      have Hb5 := Lib.hid hb5
      clear hr5 hb5 d0 d1 d2 d3
      refine held_tail 7 _ rfl (by kernel_rfl) (by kernel_rfl) (fun _ => s5) ?_
      clear s5
      simp only [List.drop_succ_cons, List.drop_zero]
      repeat (go_big_quiet_step ((first | (go_at_call 27; exact string_quiet (Hb5.out)) | (go_at_call 29; exact len_quiet (Hb5.out)) | (go_at_call 30; exact bleft_quiet (Hb5.out)))))
      refine wpQuiet_nil ?_
      intro w6 hw6
      obtain ⟨nq, hw6⟩ := hw6
      subst hw6
      clear hq1
      go_wp2_with fail
      go_roundw
      case rel => exact ⟨k + 1, l5, by go_num, by omega, Hb5.out.nob ((Chg.refl Nob _).drewN _), Hr5.out.chg ((Chg.refl Nob _).drewN _) (fun e => e), Hbel5.out _, Nat.le_trans hBw Hsz5.out⟩
      case measure => simp [intOf]; omega
    · obtain ⟨f0, f1, g0, g1⟩ := cell_two Hr.out.2.2
      go_wp2_with fail
      go_quiet ((go_at_call 27; exact string_quiet (Hb.out)))
      go_wp2_with fail
      go_ret
      exact ⟨rfl, ⟨hbel.os, hbel.tape, hbel.output, hbel.size, hbel.block⟩⟩

set_option maxRecDepth 100000 in
theorem lifted (os : Os) (started : os.Started) (H : Type) (enc : TypeId × Value → H) :
    ReturnsInHanded {} Try.checked os 10 .any (Rows.codecPutsSpec.pre6 enc Try.prog Try.f10 Rows.codecPutsRow.domain false) (Rows.codecPutsSpec.post enc Try.prog Try.f10 false true false false) := by
  refine returnsInHanded_of_change_sized (C := Try.checked) own started (by kernel_rfl) Try.func10
    (ChangeSpec.witness6 (enc := enc) (C := Try.checked) false ⟨#[], #[.int .i64 0, .slice none 0 0], []⟩ 8 (by kernel_rfl) (by kernel_rfl) (by kernel_rfl) (by kernel_rfl)) ?_
  intro W base args ds gs before hval0 hW hcnd hsz0 _
  have hval : ∀ (j : Nat) t v, Try.f10.params[j]? = some t → args[j]? = some v → Value.okWide Try.prog W .any base t v := hval0
  have hsz : (DataW.weightsEach Try.prog (Try.f10.params.toList ++ Rows.codecPutsSpec.plain.varTypes Try.prog) (ds ++ gs)).all (· ≤ reachBytes) = true := hsz0
  have hW' := hW
  obtain ⟨p, q, hA0, hV, rfl, hfz, hnd⟩ := hW
  have hA : DataW.TrodAll enc Try.prog W 0 (fun _ => true) true Try.f10.params.toList args.toList ds p := hA0
  rw [Try.params10] at hA hval hsz
  obtain ⟨v0, vs0, d0, ds0, p0, q0, hargs, rfl, rfl, h0, r0⟩ := trodAll_cons hA
  obtain ⟨v1, vs1, d1, ds1, p1, q1, rfl, rfl, rfl, h1, r1⟩ := trodAll_cons r0
  obtain ⟨rfl, rfl, rfl⟩ := trodAll_nil r1
  obtain rfl : args = #[v0, v1] := by cases args; simp_all
  obtain ⟨rfl, rfl⟩ := trodVars_none hV
  have k0 := h0
  have lt0 : ∀ x ∈ p0, x.block < W.heap.size := by obtain ⟨m, hm⟩ := k0; exact DataW.trod_lt m _ _ _ hm
  have k1 := h1
  have lt1 : ∀ x ∈ p1, x.block < W.heap.size := by obtain ⟨m, hm⟩ := k1; exact DataW.trod_lt m _ _ _ hm
  obtain ⟨a0, rfl, _, _, w0⟩ := open_int Try.underlying3 (hval 0 3 v0 rfl rfl) h0
  obtain ⟨l1, hl1⟩ := isPuts_of (hval 1 66 v1 rfl rfl) h1 (sized_at hsz (j := 1) rfl rfl)
  clear hA0 hval0
  refine (walk a0 w0 v1 l1 W hl1).mono fun e W' ⟨he, bel⟩ => ?_
  subst he
  exact ⟨_, rfl, _, _, _, [], _, [], hW', trodAll_mk1 (shut_bool Try.underlying4 _), (trodAll_cons_mk (Below.trod laidOut (by kernel_rfl) (of_decide_eq_true (by kernel_rfl)) k0 bel lt0) (trodAll_cons_mk (Below.trod laidOut (by kernel_rfl) (of_decide_eq_true (by kernel_rfl)) k1 bel lt1) trodAll_mk0)), rfl, bel.frame _, fun h => by cases h⟩

theorem over : Rows.codecPutsRow.holds Try.pinned (OpenSpec.ofChange Rows.codecPutsSpec) :=
  OpenClaim.holds_of_wide 10 Try.f10 rfl rfl rfl rfl rfl rfl rfl ⟨rfl, rfl, rfl, rfl, rfl⟩ rfl rfl rfl rfl rfl (by kernel_rfl) Try.func10 (by kernel_rfl)
    (of_decide_eq_true (by kernel_rfl)) (by unfold Func.isWrapper; rw [if_neg (of_decide_eq_false (by kernel_rfl))]; exact ⟨rfl, rfl⟩)
    (fun os started H enc _ => lifted os started H enc)

theorem proved : Rows.CodecPutsSaid :=
  over

end Go.Proofs.Ytickdmalkmgkiaa.codecPuts
