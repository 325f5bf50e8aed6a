/- The contract of the codec law helper does. Conditions: as each theorem states. -/
import Derived.Test.YtickdmalkmgkiaaKnown
import Derived.Test.YtickdmalkmgkiaaLine
import Derived.Test.YtickdmalkmgkiaaOpen
import Derived.Deep.RegionHeld3
import Derived.Lib.Strings
namespace Go.Proofs.Ytickdmalkmgkiaa
open Go.RowKit

def putErr (room : Nat) (l s : List UInt8) : Int := if l.length + s.length ≤ room then 0 else 12
def putRes (room : Nat) (l s : List UInt8) : List UInt8 := if l.length + s.length ≤ room then l ++ s else l
def PutOne (B b : Nat) (l s : List UInt8) (room : Nat) (w : World) (e : Ending) (w' : World) : Prop :=
  e = .returned (.int .i64 (putErr room l s)) ∧ Chg (BufS w B b) w w' ∧ isBuf w' B b (putRes room l s) room
theorem PutPost.one {B b : Nat} {l s : List UInt8} {room : Nat} {w w' : World} {e : Ending} (h : PutPost B b l s room w e w') : PutOne B b l s room w e w' := by
  unfold PutOne putErr putRes
  rcases h with ⟨h1, h2, h3, h4⟩ | ⟨h1, h2, h3, h4⟩
  · rw [if_pos h1, if_pos h1]; exact ⟨h2, h3, h4⟩
  · rw [if_neg (by omega), if_neg (by omega)]; exact ⟨h2, h3.any, h4⟩
def PutTwo (b : Nat) (l s : List UInt8) (room : Nat) (w : World) (e : Ending) (w' : World) : Prop :=
  e = .returned (.int .i64 (putErr room l s)) ∧ Chg (At1 b) w w' ∧ isRB w' b (putRes room l s) room
theorem Put2Post.two {b : Nat} {l s : List UInt8} {room : Nat} {w w' : World} {e : Ending} (h : Put2Post b l s room w e w') : PutTwo b l s room w e w' := by
  unfold PutTwo putErr putRes
  rcases h with ⟨h1, h2, h3, h4⟩ | ⟨h1, h2, h3, h4⟩
  · rw [if_pos h1, if_pos h1]; exact ⟨h2, h3, h4⟩
  · rw [if_neg (by omega), if_neg (by omega)]; exact ⟨h2, h3, h4⟩

/-- What a step of the law CodecPuts may turn: the two buffers, and blocks from block B on. -/
def DoesC (B b r : Nat) : Nat → Prop := fun k => k = b ∨ k = r ∨ B ≤ k
def DoesPost (B b r : Nat) (room : Nat) (w : World) (e : Ending) (w' : World) : Prop :=
  e = .returned (.bool true) ∧ Chg (DoesC B b r) w w' ∧ ∃ l, isBuf w' B b l room ∧ isRB w' r l room
theorem BufS.does {w w' : World} {B b : Nat} (r : Nat) (h : Chg (BufS w B b) w w') : Chg (DoesC B b r) w w' := h.mono (fun i _ e => by
  rcases e with e | ⟨e, _⟩
  · exact .inl e
  · exact .inr (.inr e))
theorem At1.does {w w' : World} (B b : Nat) {r : Nat} (h : Chg (At1 r) w w') : Chg (DoesC B b r) w w' := h.mono (fun _i _ e => .inr (.inl e))
theorem isRB.put {w w' : World} {B b r : Nat} {l : List UInt8} {room : Nat} (h : isRB w r l room) (hc : Chg (BufS w B b) w w') (hbr : b ≠ r) : isRB w' r l room :=
  h.chg hc (BufS.other h.2.2 (by decide) (Ne.symm hbr))
theorem isBuf.put {w w' : World} {B b r : Nat} {l : List UInt8} {room : Nat} (h : isBuf w B b l room) (hc : Chg (At1 r) w w') (hbr : b ≠ r) (hrB : r < B) : isBuf w' B b l room :=
  h.chg hc (fun e => hbr e) (fun k hk _ e => by have e2 : k = r := e; omega)

theorem cell_four {w : World} {b : Nat} {x y z u : Value} {t : TypeId} (h : w.heap[b]? = some (.cells #[x, y, z, u] t (0, 0))) : w.cell? ⟨b, 0, none⟩ = some x ∧ w.cell? ⟨b, 1, none⟩ = some y ∧ w.cell? ⟨b, 2, none⟩ = some z ∧ w.cell? ⟨b, 3, none⟩ = some u := by
  simp [World.cell?, h]

set_option maxRecDepth 100000 in
set_option maxHeartbeats 4000000 in
theorem does0 (B b r : Nat) (l : List UInt8) (room : Nat) (x : Int) (n : Nat) (k : Int) (s : ByteArray) (w : World) (x0 : -9223372036854775808 ≤ x) (x1 : x ≤ 9223372036854775807) (hn : n ≤ 18446744073709551615) (_hs : s.size ≤ 140737488351232)
    (hx : (if x < 0 then -(x + 1) else x) % 5 = 0) (hB : B ≤ w.heap.size) (hbr : b ≠ r) (hrB : r < B) (hbuf : isBuf w B b l room) (hrb : isRB w r l room) :
    Calls Try.prog 42 #[.pointer (some ⟨b, 0, none⟩), .pointer (some ⟨r, 0, none⟩), .agg #[.int .i64 x, .int .u64 n, .int .i64 k, .string s]] w (DoesPost B b r room w) := by
  have hpick : ∀ w, Calls Try.prog 22 #[.int .i64 x, .int .i64 5] w fun e w' => e = .returned (.int .i64 0) ∧ w = w' := by
    intro w; rw [← hx]; exact pick_any x 5 w x0 x1 (by decide) (by decide)
  have Hpick := Lib.hid hpick
  clear hpick hx
  have H := Lib.hid hn
  have Hbuf := Lib.hid hbuf
  have Hrb := Lib.hid hrb
  have hbl := hbuf.lt
  have hrl := hrb.lt
  clear hn hbuf hrb
  go_enter Try.func42, Try.ntmps42
  go_wp2_with fail
  (with_reducible refine (Hpick.out _).mono ?_)
  rintro e w4 ⟨rfl, rfl⟩
  go_wp2_with fail
  obtain ⟨W0, hW0⟩ : ∃ W0, W0 = w.alloc (.cells #[.int .i64 x, .int .u64 n, .int .i64 k, .string s] 71) := ⟨_, rfl⟩
  rw [← hW0]
  have hc0 : Chg Nob w W0 := by rw [hW0]; exact (Chg.refl Nob w).alloc _
  have Hbox : Hid (W0.heap[w.heap.size]? = some (.cells #[.int .i64 x, .int .u64 n, .int .i64 k, .string s] 71 (0, 0))) := by show _ = _; rw [hW0]; exact heap_alloc_new w _
  obtain ⟨c0, c1, c2, c3⟩ := cell_four Hbox.out
  have hz0 : w.heap.size < W0.heap.size := by rw [hW0]; simp
  clear hW0
  have hb0 := Hbuf.out.nob hc0
  have hr0 := Hrb.out.chg hc0 (fun e => e)
  have Hbr := Lib.hid hbr
  clear hbr
  have Hl := Lib.hid (numb_len10 H.out)
  go_region_held3 (fun w' => w'.cell? ⟨w.heap.size, 1, none⟩ = some (.int .u64 n)) (first | exact c1 | exact s1 | exact s2 | exact s3) (first
    | (go_at_call 26; refine ((uint_any B b l room n _ H.out (by exact Nat.le_of_lt (Nat.lt_of_le_of_lt hB hz0)) (by exact hb0)).mono (fun _ _ h => PutPost.one h)).mono ?_; rintro e w1 ⟨rfl, hc1, hb1⟩; have s1 := hc1.cell' c1 (BufS.other Hbox.out (by decide) (by show w.heap.size ≠ b; omega)))
    | (go_at_call 60; refine (Number_all n _ H.out).mono ?_; rintro e w2 ⟨rfl, hc2⟩; have s2 := hc2.cell' s1 (fun e => e); have hr2 : isRB w2 r l room := (isRB.put (by exact hr0) hc1 Hbr.out).chg hc2 (fun e => e))
    | (go_at_call 59; refine ((Put_any r l (numb n) room _ (by exact hr2) (by have := Hl.out; omega)).mono (fun _ _ h => Put2Post.two h)).mono ?_; rintro e w3 ⟨rfl, hc3, hr3⟩; have s3 := hc3.cell' s2 (by show w.heap.size ≠ r; omega)))
  go_wp2_with fail
  go_ret
  exact ⟨rfl, (hc0.drew.any.trans1 (BufS.does r hc1)).trans1 (hc2.any.trans1 (At1.does B b hc3)), _, (hb1.nob hc2).put hc3 Hbr.out hrB, hr3⟩

set_option maxRecDepth 100000 in
set_option maxHeartbeats 4000000 in
theorem does1 (B b r : Nat) (l : List UInt8) (room : Nat) (x : Int) (n : Nat) (k : Int) (s : ByteArray) (w : World) (x0 : -9223372036854775808 ≤ x) (x1 : x ≤ 9223372036854775807) (hn : n ≤ 18446744073709551615) (_hs : s.size ≤ 140737488351232)
    (hx : (if x < 0 then -(x + 1) else x) % 5 = 1) (hB : B ≤ w.heap.size) (hbr : b ≠ r) (hrB : r < B) (hbuf : isBuf w B b l room) (hrb : isRB w r l room) :
    Calls Try.prog 42 #[.pointer (some ⟨b, 0, none⟩), .pointer (some ⟨r, 0, none⟩), .agg #[.int .i64 x, .int .u64 n, .int .i64 k, .string s]] w (DoesPost B b r room w) := by
  have hpick : ∀ w, Calls Try.prog 22 #[.int .i64 x, .int .i64 5] w fun e w' => e = .returned (.int .i64 1) ∧ w = w' := by
    intro w; rw [← hx]; exact pick_any x 5 w x0 x1 (by decide) (by decide)
  have Hpick := Lib.hid hpick
  clear hpick hx
  have H := Lib.hid hn
  have Hbuf := Lib.hid hbuf
  have Hrb := Lib.hid hrb
  have hbl := hbuf.lt
  have hrl := hrb.lt
  clear hn hbuf hrb
  go_enter Try.func42, Try.ntmps42
  go_wp2_with fail
  (with_reducible refine (Hpick.out _).mono ?_)
  rintro e w4 ⟨rfl, rfl⟩
  go_wp2_with fail
  obtain ⟨W0, hW0⟩ : ∃ W0, W0 = w.alloc (.cells #[.int .i64 x, .int .u64 n, .int .i64 k, .string s] 71) := ⟨_, rfl⟩
  rw [← hW0]
  have hc0 : Chg Nob w W0 := by rw [hW0]; exact (Chg.refl Nob w).alloc _
  have Hbox : Hid (W0.heap[w.heap.size]? = some (.cells #[.int .i64 x, .int .u64 n, .int .i64 k, .string s] 71 (0, 0))) := by show _ = _; rw [hW0]; exact heap_alloc_new w _
  obtain ⟨c0, c1, c2, c3⟩ := cell_four Hbox.out
  have hz0 : w.heap.size < W0.heap.size := by rw [hW0]; simp
  clear hW0
  have hb0 := Hbuf.out.nob hc0
  have hr0 := Hrb.out.chg hc0 (fun e => e)
  have Hbr := Lib.hid hbr
  clear hbr
  have hi : -9223372036854775808 ≤ IntKind.i64.wrap (n : Int) ∧ IntKind.i64.wrap (n : Int) ≤ 9223372036854775807 := by rw [IntKind.wrap_i64]; omega
  obtain ⟨m, hm⟩ : ∃ m, IntKind.i64.wrap (n : Int) = m := ⟨_, rfl⟩
  rw [hm] at hi
  have Hi := Lib.hid hi
  clear hi
  have Hl := Lib.hid (numb_len10 (zig_eq m Hi.out.1 Hi.out.2).2)
  go_region_held3 (fun w' => w'.cell? ⟨w.heap.size, 1, none⟩ = some (.int .u64 n)) (first | exact c1 | exact s1 | exact s2 | exact s3) (first
    | (go_at_call 31; refine ((int_any B b l room m _ Hi.out.1 Hi.out.2 (by exact Nat.le_of_lt (Nat.lt_of_le_of_lt hB hz0)) (by exact hb0)).mono (fun _ _ h => PutPost.one h)).mono ?_; rintro e w1 ⟨rfl, hc1, hb1⟩; have s1 := hc1.cell' c1 (BufS.other Hbox.out (by decide) (by show w.heap.size ≠ b; omega)))
    | (go_at_call 61; refine (Signed_any m _ Hi.out.1 Hi.out.2).mono ?_; rintro e w2 ⟨rfl, hc2⟩; have s2 := hc2.cell' s1 (fun e => e); have hr2 : isRB w2 r l room := (isRB.put (by exact hr0) hc1 Hbr.out).chg hc2 (fun e => e))
    | (go_at_call 59; refine ((Put_any r l (numb (zig m)) room _ (by exact hr2) (by have := Hl.out; omega)).mono (fun _ _ h => Put2Post.two h)).mono ?_; rintro e w3 ⟨rfl, hc3, hr3⟩; have s3 := hc3.cell' s2 (by show w.heap.size ≠ r; omega)))
  go_wp2_with fail
  go_ret
  exact ⟨rfl, (hc0.drew.any.trans1 (BufS.does r hc1)).trans1 (hc2.any.trans1 (At1.does B b hc3)), _, (hb1.nob hc2).put hc3 Hbr.out hrB, hr3⟩

set_option maxRecDepth 100000 in
set_option maxHeartbeats 4000000 in
theorem does3 (B b r : Nat) (l : List UInt8) (room : Nat) (x : Int) (n : Nat) (k : Int) (s : ByteArray) (w : World) (x0 : -9223372036854775808 ≤ x) (x1 : x ≤ 9223372036854775807) (hn : n ≤ 18446744073709551615) (hs : s.size ≤ 140737488351232)
    (hx : (if x < 0 then -(x + 1) else x) % 5 = 3) (hB : B ≤ w.heap.size) (hbr : b ≠ r) (hrB : r < B) (hbuf : isBuf w B b l room) (hrb : isRB w r l room) :
    Calls Try.prog 42 #[.pointer (some ⟨b, 0, none⟩), .pointer (some ⟨r, 0, none⟩), .agg #[.int .i64 x, .int .u64 n, .int .i64 k, .string s]] w (DoesPost B b r room w) := by
  have hpick : ∀ w, Calls Try.prog 22 #[.int .i64 x, .int .i64 5] w fun e w' => e = .returned (.int .i64 3) ∧ w = w' := by
    intro w; rw [← hx]; exact pick_any x 5 w x0 x1 (by decide) (by decide)
  have Hpick := Lib.hid hpick
  clear hpick hx
  have H := Lib.hid hn
  have Hbuf := Lib.hid hbuf
  have Hrb := Lib.hid hrb
  have hbl := hbuf.lt
  have hrl := hrb.lt
  clear hn hbuf hrb
  go_enter Try.func42, Try.ntmps42
  go_wp2_with fail
  (with_reducible refine (Hpick.out _).mono ?_)
  rintro e w4 ⟨rfl, rfl⟩
  go_wp2_with fail
  obtain ⟨W0, hW0⟩ : ∃ W0, W0 = w.alloc (.cells #[.int .i64 x, .int .u64 n, .int .i64 k, .string s] 71) := ⟨_, rfl⟩
  rw [← hW0]
  have hc0 : Chg Nob w W0 := by rw [hW0]; exact (Chg.refl Nob w).alloc _
  have Hbox : Hid (W0.heap[w.heap.size]? = some (.cells #[.int .i64 x, .int .u64 n, .int .i64 k, .string s] 71 (0, 0))) := by show _ = _; rw [hW0]; exact heap_alloc_new w _
  obtain ⟨c0, c1, c2, c3⟩ := cell_four Hbox.out
  have hz0 : w.heap.size < W0.heap.size := by rw [hW0]; simp
  clear hW0
  have hb0 := Hbuf.out.nob hc0
  have hr0 := Hrb.out.chg hc0 (fun e => e)
  have Hbr := Lib.hid hbr
  clear hbr
  have hs10 : s.size ≤ 18446744073709551615 := by omega
  have Hs10 := Lib.hid hs10
  have Hl := Lib.hid (numb_len10 hs10)
  have hl := numb_len10 hs10
  clear hs10
  have hsz : IntKind.u64.wrap (s.size : Int) = (s.size : Int) := by rw [IntKind.wrap_u64]; omega
  obtain ⟨N, hN⟩ : ∃ N, numb s.size = N := ⟨_, rfl⟩
  rw [hN] at hl
  have HN := Lib.hid hN
  clear hN
  have hgt : ¬ 9223372036854775807 < N.length + s.size := by omega
  have htext := fun W (h1 : B ≤ W.heap.size) (h2 : isBuf W B b l room) => (text_any B b l room s W (by omega) h1 h2).mono (fun _ _ h => PutPost.one h)
  have hnum := fun W => Number_all s.size W Hs10.out
  rw [HN.out] at hnum
  simp only [HN.out] at htext
  have Htext := Lib.hid htext
  have Hnum := Lib.hid hnum
  have Hslen : Hid (s.data.toList.length = s.size) := by rw [Array.length_toList]; rfl
  have Hput := Lib.hid (fun W (h1 : isRB W r l room) => (Put_any r l (N ++ s.data.toList) room W h1 (by rw [List.length_append, Hslen.out]; omega)).mono (fun _ _ h => Put2Post.two h))
  have Hcat : Hid ((⟨N.toArray⟩ : ByteArray) ++ s = ⟨(N ++ s.data.toList).toArray⟩) := by apply ByteArray.ext; simp
  clear htext hnum
  go_region_held3 (fun w' => w'.cell? ⟨w.heap.size, 3, none⟩ = some (.string s)) (first | exact c3 | exact s1 | exact s2 | exact s3) (first
    | (go_at_call 44; refine (Htext.out _ (by exact Nat.le_of_lt (Nat.lt_of_le_of_lt hB hz0)) (by exact hb0)).mono ?_; rintro e w1 ⟨rfl, hc1, hb1⟩; have s1 := hc1.cell' c3 (BufS.other Hbox.out (by decide) (by show w.heap.size ≠ b; omega)))
    | (go_at_call 60; refine (Hnum.out _).mono ?_; rintro e w2 ⟨rfl, hc2⟩; have s2 := hc2.cell' s1 (fun e => e); have hr2 : isRB w2 r l room := (isRB.put (by exact hr0) hc1 Hbr.out).chg hc2 (fun e => e))
    | (go_at_call 59; rw [Hcat.out]; refine (Hput.out _ (by exact hr2)).mono ?_; rintro e w3 ⟨rfl, hc3, hr3⟩; have s3 := hc3.cell' s2 (by show w.heap.size ≠ r; omega)))
  go_wp2_with fail
  go_ret
  exact ⟨rfl, (hc0.drew.any.trans1 (BufS.does r hc1)).trans1 (hc2.any.trans1 (At1.does B b hc3)), _, (hb1.nob hc2).put hc3 Hbr.out hrB, hr3⟩

set_option maxRecDepth 100000 in
set_option maxHeartbeats 4000000 in
theorem does2bad (B b r : Nat) (l : List UInt8) (room : Nat) (x : Int) (n : Nat) (k : Int) (s : ByteArray) (w : World) (x0 : -9223372036854775808 ≤ x) (x1 : x ≤ 9223372036854775807) (hn : n ≤ 18446744073709551615) (_hs : s.size ≤ 140737488351232)
    (hx : (if x < 0 then -(x + 1) else x) % 5 = 2) (_hB : B ≤ w.heap.size) (hbr : b ≠ r) (_hrB : r < B) (hok : okSize k = false) (hbuf : isBuf w B b l room) (hrb : isRB w r l room) :
    Calls Try.prog 42 #[.pointer (some ⟨b, 0, none⟩), .pointer (some ⟨r, 0, none⟩), .agg #[.int .i64 x, .int .u64 n, .int .i64 k, .string s]] w (DoesPost B b r room w) := by
  have hpick : ∀ w, Calls Try.prog 22 #[.int .i64 x, .int .i64 5] w fun e w' => e = .returned (.int .i64 2) ∧ w = w' := by
    intro w; rw [← hx]; exact pick_any x 5 w x0 x1 (by decide) (by decide)
  have Hpick := Lib.hid hpick
  clear hpick hx
  have H := Lib.hid hn
  have Hbuf := Lib.hid hbuf
  have Hrb := Lib.hid hrb
  have hbl := hbuf.lt
  have hrl := hrb.lt
  clear hn hbuf hrb
  go_enter Try.func42, Try.ntmps42
  go_wp2_with fail
  (with_reducible refine (Hpick.out _).mono ?_)
  rintro e w4 ⟨rfl, rfl⟩
  obtain ⟨W0, hW0⟩ : ∃ W0, W0 = w.alloc (.cells #[.int .i64 x, .int .u64 n, .int .i64 k, .string s] 71) := ⟨_, rfl⟩
  rw [← hW0]
  have hc0 : Chg Nob w W0 := by rw [hW0]; exact (Chg.refl Nob w).alloc _
  have Hbox : Hid (W0.heap[w.heap.size]? = some (.cells #[.int .i64 x, .int .u64 n, .int .i64 k, .string s] 71 (0, 0))) := by show _ = _; rw [hW0]; exact heap_alloc_new w _
  obtain ⟨c0, c1, c2, c3⟩ := cell_four Hbox.out
  have hz0 : w.heap.size < W0.heap.size := by rw [hW0]; simp
  clear hW0
  have hb0 := Hbuf.out.nob hc0
  have hr0 := Hrb.out.chg hc0 (fun e => e)
  have Hbr := Lib.hid hbr
  clear hbr
  go_wp2_with fail
  (with_reducible refine (Fixed_bad n k _ hok).mono ?_)
  rintro e w1 ⟨rfl, hc1⟩
  have d1 := hc1.cell' c1 (fun e => e)
  have d2 := hc1.cell' c2 (fun e => e)
  go_wp2_with fail
  (with_reducible refine (fixed_bad b n k _ hok).mono ?_)
  rintro e w2 ⟨rfl, rfl⟩
  go_wp2_with fail
  go_ret
  exact ⟨rfl, (hc0.trans1 hc1).any, l, hb0.nob hc1, hr0.chg hc1 (fun e => e)⟩

set_option maxRecDepth 100000 in
set_option maxHeartbeats 4000000 in
theorem does2 (B b r : Nat) (l : List UInt8) (room : Nat) (x : Int) (n : Nat) (k : Int) (s : ByteArray) (w : World) (x0 : -9223372036854775808 ≤ x) (x1 : x ≤ 9223372036854775807) (hn : n ≤ 18446744073709551615) (_hs : s.size ≤ 140737488351232)
    (hx : (if x < 0 then -(x + 1) else x) % 5 = 2) (hB : B ≤ w.heap.size) (hbr : b ≠ r) (hrB : r < B) (hok : okSize k = true) (hbuf : isBuf w B b l room) (hrb : isRB w r l room) :
    Calls Try.prog 42 #[.pointer (some ⟨b, 0, none⟩), .pointer (some ⟨r, 0, none⟩), .agg #[.int .i64 x, .int .u64 n, .int .i64 k, .string s]] w (DoesPost B b r room w) := by
  have hpick : ∀ w, Calls Try.prog 22 #[.int .i64 x, .int .i64 5] w fun e w' => e = .returned (.int .i64 2) ∧ w = w' := by
    intro w; rw [← hx]; exact pick_any x 5 w x0 x1 (by decide) (by decide)
  have Hpick := Lib.hid hpick
  clear hpick hx
  have H := Lib.hid hn
  have Hbuf := Lib.hid hbuf
  have Hrb := Lib.hid hrb
  have hbl := hbuf.lt
  have hrl := hrb.lt
  clear hn hbuf hrb
  go_enter Try.func42, Try.ntmps42
  go_wp2_with fail
  (with_reducible refine (Hpick.out _).mono ?_)
  rintro e w4 ⟨rfl, rfl⟩
  obtain ⟨W0, hW0⟩ : ∃ W0, W0 = w.alloc (.cells #[.int .i64 x, .int .u64 n, .int .i64 k, .string s] 71) := ⟨_, rfl⟩
  rw [← hW0]
  have hc0 : Chg Nob w W0 := by rw [hW0]; exact (Chg.refl Nob w).alloc _
  have Hbox : Hid (W0.heap[w.heap.size]? = some (.cells #[.int .i64 x, .int .u64 n, .int .i64 k, .string s] 71 (0, 0))) := by show _ = _; rw [hW0]; exact heap_alloc_new w _
  obtain ⟨c0, c1, c2, c3⟩ := cell_four Hbox.out
  have hz0 : w.heap.size < W0.heap.size := by rw [hW0]; simp
  clear hW0
  have hb0 := Hbuf.out.nob hc0
  have hr0 := Hrb.out.chg hc0 (fun e => e)
  have Hbr := Lib.hid hbr
  clear hbr
  obtain ⟨j, hj⟩ : ∃ j : Nat, k = j := ⟨k.toNat, by have := (okSize_iff _).1 hok; omega⟩
  subst hj
  have hjl : j ≤ 8 := by have := (okSize_iff _).1 hok; omega
  have Hf : Hid ((fixb n j).length = j) := fixb_len j n
  have hcall := Fixed_any n j W0 hok H.out
  by_cases hfit : n < 256 ^ j
  · rw [decide_eq_true hfit] at hcall
    have Hcall := Lib.hid hcall
    have Hfit := Lib.hid hfit
    have hj4 : j = 1 ∨ j = 2 ∨ j = 4 ∨ j = 8 := by have := (okSize_iff _).1 hok; omega
    have Hj4 := Lib.hid hj4
    clear hcall hfit hj4
    go_wp2_with fail
    (with_reducible refine (Hcall.out).mono ?_)
    rintro e w1 ⟨rfl, hc1⟩
    have e1 := hc1.cell' c1 (fun e => e)
    have e2 := hc1.cell' c2 (fun e => e)
    have hr1 := hr0.chg hc1 (fun e => e)
    have hb1 := hb0.nob hc1
    go_wp2_with fail
    (with_reducible refine ((Put_any r l (fixb n j) room _ hr1 (by rw [Hf.out]; omega)).mono (fun _ _ h => Put2Post.two h)).mono ?_)
    rintro e w2 ⟨rfl, hc2, hr2⟩
    have f1 := hc2.cell' e1 (by show w.heap.size ≠ r; omega)
    have f2 := hc2.cell' e2 (by show w.heap.size ≠ r; omega)
    have hb2 := hb1.put hc2 Hbr.out hrB
    have hz2 : B ≤ w2.heap.size := by have q1 := hc1.size; have q2 := hc2.size; omega
    go_wp2_with fail
    (with_reducible refine ((fixed_any B b l room n j _ Hj4.out Hfit.out hz2 hb2).mono (fun _ _ h => PutPost.one h)).mono ?_)
    rintro e w3 ⟨rfl, hc3, hb3⟩
    go_wp2_with fail
    go_ret
    exact ⟨rfl, ((hc0.trans1 hc1).any.trans1 (At1.does B b hc2)).trans1 (BufS.does r hc3), _, hb3, hr2.put hc3 Hbr.out⟩
  · rw [decide_eq_false hfit] at hcall
    have Hcall := Lib.hid hcall
    have hbig : (j = 1 ∨ j = 2 ∨ j = 4) ∧ 256 ^ j ≤ n := by
      have h1 := (okSize_iff _).1 hok
      have h2 := H.out
      refine ⟨?_, by omega⟩
      rcases (show j = 1 ∨ j = 2 ∨ j = 4 ∨ j = 8 by omega) with h | h | h | h
      · exact .inl h
      · exact .inr (.inl h)
      · exact .inr (.inr h)
      · subst h; simp only [Nat.reducePow] at hfit; omega
    have Hbig := Lib.hid hbig
    clear hcall hfit hbig
    go_wp2_with fail
    (with_reducible refine (Hcall.out).mono ?_)
    rintro e w1 ⟨rfl, hc1⟩
    have e1 := hc1.cell' c1 (fun e => e)
    have e2 := hc1.cell' c2 (fun e => e)
    go_wp2_with fail
    (with_reducible refine (fixed_big b n j _ Hbig.out.1 Hbig.out.2).mono ?_)
    rintro e w2 ⟨rfl, rfl⟩
    go_wp2_with fail
    go_ret
    exact ⟨rfl, (hc0.trans1 hc1).any, l, hb0.nob hc1, hr0.chg hc1 (fun e => e)⟩

set_option maxRecDepth 100000 in
set_option maxHeartbeats 4000000 in
theorem does4 (B b r : Nat) (l : List UInt8) (room : Nat) (x : Int) (n : Nat) (k : Int) (s : ByteArray) (w : World) (x0 : -9223372036854775808 ≤ x) (x1 : x ≤ 9223372036854775807) (hn : n ≤ 18446744073709551615) (hs : s.size ≤ 140737488351232)
    (hx : (if x < 0 then -(x + 1) else x) % 5 = 4) (hB : B ≤ w.heap.size) (hbr : b ≠ r) (hrB : r < B) (hbuf : isBuf w B b l room) (hrb : isRB w r l room) :
    Calls Try.prog 42 #[.pointer (some ⟨b, 0, none⟩), .pointer (some ⟨r, 0, none⟩), .agg #[.int .i64 x, .int .u64 n, .int .i64 k, .string s]] w (DoesPost B b r room w) := by
  have hpick : ∀ w, Calls Try.prog 22 #[.int .i64 x, .int .i64 5] w fun e w' => e = .returned (.int .i64 4) ∧ w = w' := by
    intro w; rw [← hx]; exact pick_any x 5 w x0 x1 (by decide) (by decide)
  have Hpick := Lib.hid hpick
  clear hpick hx
  have H := Lib.hid hn
  have Hbuf := Lib.hid hbuf
  have Hrb := Lib.hid hrb
  have hbl := hbuf.lt
  have hrl := hrb.lt
  clear hn hbuf hrb
  go_enter Try.func42, Try.ntmps42
  go_wp2_with fail
  (with_reducible refine (Hpick.out _).mono ?_)
  rintro e w4 ⟨rfl, rfl⟩
  obtain ⟨W0, hW0⟩ : ∃ W0, W0 = w.alloc (.cells #[.int .i64 x, .int .u64 n, .int .i64 k, .string s] 71) := ⟨_, rfl⟩
  rw [← hW0]
  have hc0 : Chg Nob w W0 := by rw [hW0]; exact (Chg.refl Nob w).alloc _
  have Hbox : Hid (W0.heap[w.heap.size]? = some (.cells #[.int .i64 x, .int .u64 n, .int .i64 k, .string s] 71 (0, 0))) := by show _ = _; rw [hW0]; exact heap_alloc_new w _
  obtain ⟨c0, c1, c2, c3⟩ := cell_four Hbox.out
  have hz0 : w.heap.size < W0.heap.size := by rw [hW0]; simp
  clear hW0
  have hb0 := Hbuf.out.nob hc0
  have hr0 := Hrb.out.chg hc0 (fun e => e)
  have Hbr := Lib.hid hbr
  clear hbr
  have hslen : s.size ≤ 9223372036854775807 := by omega
  have Hslen : Hid (s.data.toList.length = s.size) := by rw [Array.length_toList]; rfl
  have hcall := Has_any s W0 hslen
  by_cases h10 : (10 : UInt8) ∈ s.data.toList
  · rw [show hasTen s.data.toList = true from decide_eq_true h10] at hcall
    have Hcall := Lib.hid hcall
    have H10 := Lib.hid h10
    clear hcall h10
    go_wp2_with fail
    (with_reducible refine (Hcall.out).mono ?_)
    rintro e w1 ⟨rfl, rfl⟩
    go_wp2_with fail
    (with_reducible refine (line_no b s _ H10.out).mono ?_)
    rintro e w2 ⟨rfl, rfl⟩
    go_wp2_with fail
    go_ret
    exact ⟨rfl, hc0.any, l, hb0, hr0⟩
  · rw [show hasTen s.data.toList = false from decide_eq_false h10] at hcall
    have Hcall := Lib.hid hcall
    have H10 := Lib.hid h10
    have Hput := Lib.hid (fun W (h1 : isRB W r l room) => (Put_any r l (s.data.toList ++ [10]) room W h1 (by rw [List.length_append, Hslen.out]; simp; omega)).mono (fun _ _ h => Put2Post.two h))
    have Hcat : Hid (s ++ (⟨#[10]⟩ : ByteArray) = ⟨(s.data.toList ++ [10]).toArray⟩) := by apply ByteArray.ext; apply Array.ext'; simp
    clear hcall h10
    go_wp2_with fail
    (with_reducible refine (Hcall.out).mono ?_)
    rintro e w1 ⟨rfl, rfl⟩
    go_wp2_with fail
    rw [Hcat.out]
    (with_reducible refine (Hput.out _ hr0).mono ?_)
    rintro e w2 ⟨rfl, hc2, hr2⟩
    have f3 := hc2.cell' c3 (by show w.heap.size ≠ r; omega)
    have hb2 := hb0.put hc2 Hbr.out hrB
    have hz2 : B ≤ w2.heap.size := by have q2 := hc2.size; omega
    go_wp2_with fail
    (with_reducible refine ((line_any B b l room s _ H10.out hz2 hb2).mono (fun _ _ h => PutPost.one h)).mono ?_)
    rintro e w3 ⟨rfl, hc3, hb3⟩
    go_wp2_with fail
    go_ret
    exact ⟨rfl, (hc0.any.trans1 (At1.does B b hc2)).trans1 (BufS.does r hc3), _, hb3, hr2.put hc3 Hbr.out⟩

end Go.Proofs.Ytickdmalkmgkiaa
