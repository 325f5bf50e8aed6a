/- The contracts of codec's Buffer: New, number, put, Uint, Int, Len, Left, String. Conditions: as each theorem states. -/
import Derived.Test.YtickdmalkmgkiaaBase
import Derived.Deep.QuietTactic
import Derived.BigQuiet
namespace Go.Proofs.Ytickdmalkmgkiaa
open Go.RowKit

def RetsRow (B : Nat) (l : List UInt8) (w : World) (e : Ending) (w' : World) : Prop := ∃ v, e = .returned v ∧ w'.ownsRow B 5 1 v l.length (l.map bv) ∧ Below B w w'

def NumRel (B : Nat) (n : Nat) (w : World) (x out : Value) (wr : World) : Prop :=
  ∃ (m : Nat) (l : List UInt8), x = .int .u64 m ∧ m ≤ 18446744073709551615 ∧ numb n = l ++ numb m ∧ wr.ownsRow B 5 1 out l.length (l.map bv) ∧ Below B w wr

set_option maxRecDepth 100000 in
set_option maxHeartbeats 400000 in
theorem number_any (n : Nat) (w : World) (h1 : n ≤ 18446744073709551615) :
    Calls Try.prog 55 #[.int .u64 n] w (RetsRow w.heap.size (numb n) w) := by
  obtain ⟨i0, hi, hz0, hz1, hz2⟩ := info_parts Try.info5
  have H1 := Lib.hid h1; clear h1
  go_enter Try.func55, Try.ntmps55
  go_wp2
  go_loopw [0, 3] (fun x out wr => NumRel w.heap.size n w x out wr) (fun x _ _ => (intOf x).toNat)
  case atStart => exact ⟨n, [], rfl, H1.out, rfl, World.ownsRow_nil _ _ _ _, Below.refl _ _⟩
  case round =>
    obtain ⟨m, l, rfl, hm, hn, hown, hb⟩ := hrel
    have hl : l.length ≤ 10 := by have := numb_len10 H1.out; rw [hn] at this; simp at this; omega
    have Hn := Lib.hid hn; clear hn
    have Hm := Lib.hid hm; clear hm
    by_cases hlt : m < 128
    · go_wp2_with (at_builtin; refine wpList_append_own _ rfl _ _ 26 rfl w.heap.size 5 i0 (.int .u8 0) 1 1 Try.underlying26 hi hz0 hz1 hz2 rfl (by decide) _ _ _ rfl (hown.alloc _) ⟨wr.heap.size, 0, none⟩ 1 1 [.int .u8 m] rfl rfl (news_one _ _ _) ?c2 ?c3 ?c4 ?c5 ?_)
      case c2 => intro u hu; simp at hu; subst hu; rfl
      case c3 => unfold maxLen; omega
      case c4 => omega
      case c5 => have := hb.size; simp; omega
      intro v' w1 hown' hgrow _
      go_wp2
      go_ret
      refine ⟨v', rfl, ?_, ?_⟩
      · rw [Hn.out, numb_lt hlt]; simp [bv_lt hlt]; exact hown'
      · exact (hb.alloc hb.size _).grown hgrow (by have := hb.size; simp; omega) (fun k hk => (hown.lt k hk).1)
    · go_wp2_with (at_builtin; refine wpList_append_own _ rfl _ _ 26 rfl w.heap.size 5 i0 (.int .u8 0) 1 1 Try.underlying26 hi hz0 hz1 hz2 rfl (by decide) _ _ _ rfl (hown.alloc _) ⟨wr.heap.size, 0, none⟩ 1 1 [_] rfl rfl (news_one _ _ _) ?d2 ?d3 ?d4 ?d5 ?_)
      case d2 => intro u hu; simp at hu; subst hu; rfl
      case d3 => unfold maxLen; omega
      case d4 => omega
      case d5 => have := hb.size; simp; omega
      intro v' w1 hown' hgrow _
      go_wp2
      go_roundw
      case rel =>
        refine ⟨m / 128, l ++ [UInt8.ofNat (128 + m % 128)], ?_, by have := Hm.out; omega, by rw [Hn.out, numb_ge hlt]; simp, ?_, ?_⟩
        · go_num
        · rw [List.map_append, List.map_cons, List.map_nil, bv_or, List.length_append]; exact hown'
        · exact (hb.alloc hb.size _).grown hgrow (by have := hb.size; simp; omega) (fun k hk => (hown.lt k hk).1)
      case measure => simp [intOf]; omega

/-- A buffer at block b: its bytes in a row from block B on. -/
def isBuf (w : World) (B b : Nat) (l : List UInt8) (room : Nat) : Prop :=
  l.length ≤ room ∧ room ≤ 16777216 ∧ ∃ v, w.heap[b]? = some (.cells #[v, .int .i64 room] 90 (0, 0)) ∧ w.ownsRow B 5 1 v l.length (l.map bv)
theorem isBuf.chg {S : Nat → Prop} {w w' : World} {B b : Nat} {l : List UInt8} {room : Nat} (h : isBuf w B b l room) (hc : Chg S w w') (hb : ¬ S b) (ho : ∀ k, B ≤ k → k < w.heap.size → ¬ S k) : isBuf w' B b l room := by
  obtain ⟨a1, a2, v, h1, h3⟩ := h
  exact ⟨a1, a2, v, hc.at h1 hb, ownsRow_chg h3 hc (fun k hk => ho k (h3.lt k hk).1 (h3.lt k hk).2)⟩
theorem isBuf.nob {w w' : World} {B b : Nat} {l : List UInt8} {room : Nat} (h : isBuf w B b l room) (hc : Chg Nob w w') : isBuf w' B b l room := h.chg hc (fun e => e) (fun _ _ _ e => e)
/-- An empty buffer, not yet written to. -/
def isNew (w : World) (b room : Nat) : Prop := room ≤ 16777216 ∧ w.heap[b]? = some (.cells #[.slice none 0 0, .int .i64 room] 90 (0, 0))
theorem isNew.buf {w : World} {b room : Nat} (h : isNew w b room) (B : Nat) : isBuf w B b [] room := ⟨Nat.zero_le _, h.1, _, h.2, World.ownsRow_nil _ _ _ _⟩
theorem isNew.chg {S : Nat → Prop} {w w' : World} {b room : Nat} (h : isNew w b room) (hc : Chg S w w') (hb : ¬ S b) : isNew w' b room := ⟨h.1, hc.at h.2 hb⟩
theorem isNew.lt {w : World} {b room : Nat} (h : isNew w b room) : b < w.heap.size := (Array.getElem?_eq_some_iff.1 h.2).1
theorem isBuf.lt {w : World} {B b room : Nat} {l : List UInt8} (h : isBuf w B b l room) : b < w.heap.size := by obtain ⟨_, _, v, h1, _⟩ := h; exact (Array.getElem?_eq_some_iff.1 h1).1

/-- The room of a new buffer. -/
def roomOf (n : Int) : Nat := if n < 0 then 0 else if 16777216 < n then 16777216 else n.toNat
def NewPost (room : Nat) (w : World) (e : Ending) (w' : World) : Prop := e = .returned (.pointer (some ⟨w.heap.size, 0, none⟩)) ∧ isNew w' w.heap.size room ∧ Chg Nob w w' ∧ w'.heap.size = w.heap.size + 1
set_option maxHeartbeats 400000 in
theorem new_any (n : Int) (w : World) : Calls Try.prog 24 #[.int .i64 n] w (NewPost (roomOf n) w) := by
  have post : ∀ (x : Int) (m : Nat), x = m → m ≤ 16777216 → roomOf n = m → NewPost (roomOf n) w (.returned (.pointer (some ⟨w.heap.size, 0, none⟩))) (w.alloc (.cells #[.slice none 0 0, .int .i64 x] 90)) := by
    intro x m hx hm hr
    subst hx
    rw [hr]
    exact ⟨rfl, ⟨hm, heap_alloc_new w _⟩, (Chg.refl _ _).alloc _, by simp⟩
  by_cases h0 : n < 0
  · go_enter Try.func24, Try.ntmps24
    go_wp2
    go_ret
    exact post 0 0 rfl (by omega) (by simp [roomOf, h0])
  · by_cases h1 : 16777216 < n
    · go_enter Try.func24, Try.ntmps24
      go_wp2
      go_ret
      exact post _ 16777216 rfl (by omega) (by simp [roomOf, h0, h1])
    · go_enter Try.func24, Try.ntmps24
      go_wp2
      go_ret
      exact post n n.toNat (by omega) (by omega) (by unfold roomOf; rw [if_neg (by omega), if_neg (by omega)])

/-- What a buffer's writing may turn: the buffer itself, and rows of bytes from block B on. -/
def BufS (w : World) (B b : Nat) : Nat → Prop := fun k => k = b ∨ (B ≤ k ∧ ∃ cs m, w.heap[k]? = some (.cells cs 5 m))
theorem BufS.chg {w w1 : World} {B b : Nat} (hc : Chg Nob w w1) : ∀ i, i < w.heap.size → BufS w1 B b i → BufS w B b i := fun i hi h => by
  rcases h with h | ⟨h1, cs, m, h2⟩
  · exact .inl h
  · exact .inr ⟨h1, cs, m, by rw [← hc.block i hi (fun e => e)]; exact h2⟩
/-- A block of another kind than a row of bytes stays. -/
theorem BufS.other {w : World} {B b k : Nat} {cs : Array Value} {t : TypeId} {m : Nat × Nat} (hk : w.heap[k]? = some (.cells cs t m)) (ht : t ≠ 5) (hb : k ≠ b) : ¬ BufS w B b k := by
  rintro (h | ⟨_, cs', m', h⟩)
  · exact hb h
  · rw [hk] at h; simp at h; exact ht h.2.1
theorem ownsRow_block {w : World} {B : Nat} {e : TypeId} {z : Nat} {v : Value} {n : Nat} {xs : List Value} (h : w.ownsRow B e z v n xs) : ∀ k, v.ownBlock = some k → ∃ cs m, w.heap[k]? = some (.cells cs e m) := by
  intro k hk
  rcases h.2 with ⟨h2, _⟩ | ⟨g', cap', cur', h2, _, hg', _⟩
  · rw [h2] at hk; simp [Value.ownBlock] at hk
  · rw [h2] at hk; simp [Value.ownBlock] at hk; subst hk; exact ⟨_, _, hg'⟩
def PutPost (B b : Nat) (l s : List UInt8) (room : Nat) (w : World) (e : Ending) (w' : World) : Prop :=
  (l.length + s.length ≤ room ∧ e = .returned (.int .i64 0) ∧ Chg (BufS w B b) w w' ∧ isBuf w' B b (l ++ s) room) ∨
  (room < l.length + s.length ∧ e = .returned (.int .i64 12) ∧ Chg Nob w w' ∧ isBuf w' B b l room)
theorem PutPost.of_chg {B b : Nat} {l s : List UInt8} {room : Nat} {w w1 : World} {e : Ending} {w' : World} (hc : Chg Nob w w1) (h : PutPost B b l s room w1 e w') : PutPost B b l s room w e w' := by
  rcases h with ⟨h1, h2, h3, h4⟩ | ⟨h1, h2, h3, h4⟩
  · exact .inl ⟨h1, h2, hc.any.trans h3 (BufS.chg hc), h4⟩
  · exact .inr ⟨h1, h2, hc.trans1 h3, h4⟩

theorem put_end {B b : Nat} {l s : List UInt8} {room : Nat} {w w1 : World} {u v' : Value} {row : Option Nat} {nq : Nat} (hr : room ≤ 16777216) (hb : w.heap[b]? = some (.cells #[u, .int .i64 room] 90 (0, 0))) (hrow : ∀ k, row = some k → B ≤ k ∧ k ≠ b) (hrow5 : ∀ k, row = some k → ∃ cs m, w.heap[k]? = some (.cells cs 5 m))
    (hg : (w.drewN nq).grownBy w1 row) (hown : w1.ownsRow B 5 1 v' (l.length + s.length) (l.map bv ++ s.map bv)) (hfit : l.length + s.length ≤ room) : PutPost B b l s room w (.returned (.int .i64 0)) (w1.setCell ⟨b, 0, none⟩ v') := by
  have hb1 : w1.heap[b]? = some (.cells #[u, .int .i64 room] 90 (0, 0)) := by
    rw [hg.block b (Array.getElem?_eq_some_iff.1 hb).1 (fun e => (hrow b e.symm).2 rfl)]; exact hb
  refine Or.inl ⟨hfit, rfl, ?_, by simpa using hfit, hr, v', block_two_set0 hb1, ?_⟩
  · exact (((Chg.refl (BufS w B b) w).drewN nq).grown hg (fun k hk _ => Or.inr ⟨(hrow k hk).1, hrow5 k hk⟩)).setCell (p := ⟨b, 0, none⟩) (fun _ => Or.inl rfl) _
  · rw [List.map_append, List.length_append]; exact ownsRow_setCell_type hown hb1 (by decide) _

set_option maxRecDepth 100000 in
set_option maxHeartbeats 400000 in
theorem put_any (B b : Nat) (l s : List UInt8) (room : Nat) (v : Value) (w : World) (hB : B ≤ w.heap.size) (hbuf : isBuf w B b l room) (hsrc : isSrc w v s) (hs2 : s.length ≤ 1000000000) :
    Calls Try.prog 54 #[.pointer (some ⟨b, 0, none⟩), v] w (PutPost B b l s room w) := by
  obtain ⟨i0, hi, hz0, hz1, hz2⟩ := info_parts Try.info5
  have Hbuf := Lib.hid hbuf
  obtain ⟨hl, hr, u, hb, hown⟩ := hbuf
  obtain ⟨g, o, cap, rfl, hcells⟩ := hsrc
  obtain ⟨ao, cu, rfl⟩ := ownsRow_shape hown
  have Hb := Lib.hid hb
  obtain ⟨c0, c1, f0, f1⟩ := cell_two hb
  have Hne := Lib.hid (ownsRow_ne_type hown hb (by decide))
  have Hn5 := Lib.hid (ownsRow_block hown)
  clear hb
  have Hc := Lib.hid hcells; clear hcells
  by_cases hroom : room < l.length + s.length
  · have hd : decide ((room : Int) - (l.length : Int) < (s.length : Int)) = true := by simp; omega
    go_enter Try.func54, Try.ntmps54
    go_wp2_with fail
    go_quiet (fail)
    go_wp2_with fail
    go_ret
    exact Or.inr ⟨hroom, rfl, (Chg.refl _ _).drewN _, Hbuf.out.nob ((Chg.refl _ _).drewN _)⟩
  · have hd : decide ((room : Int) - (l.length : Int) < (s.length : Int)) = false := by simp; omega
    go_enter Try.func54, Try.ntmps54
    go_wp2_with fail
    go_quiet (fail)
    go_wp2_with (at_builtin; refine wpList_append_own _ rfl _ _ 26 rfl B 5 i0 (.int .u8 0) 1 1 Try.underlying26 hi hz0 hz1 hz2 rfl (by decide) _ _ _ rfl (ownsRow_drewN hown nq) ⟨g, o, none⟩ s.length cap (s.map bv) rfl (by simp) ?c1 ?c2 ?c3 ?c4 ?c5 ?_)
    case c1 => intro j x hx; rw [Addr.add_lit]; exact Hc.out j x hx
    case c2 => exact bv_oneCell s
    case c3 => unfold maxLen; omega
    case c4 => omega
    case c5 => exact hB
    intro v' w1 hown' hgrow _
    have hfz : w1.frozen? ⟨b, 0, none⟩ = false := by
      rw [World.frozen?_of_block (w := w.drewN nq) (hgrow.block b (Array.getElem?_eq_some_iff.1 Hb.out).1 (fun e => (Hne.out b e.symm).2 rfl))]; exact f0
    have hcz : w1.cell? ⟨b, 0, none⟩ = some (.slice ao l.length cu) := by
      rw [World.cell?_of_block (w := w.drewN nq) (hgrow.block b (Array.getElem?_eq_some_iff.1 Hb.out).1 (fun e => (Hne.out b e.symm).2 rfl))]; exact c0
    obtain ⟨ao', c', hv⟩ := ownsRow_shape hown'
    subst hv
    go_wp2_with fail
    go_ret
    exact put_end hr Hb.out Hne.out Hn5.out hgrow hown' (by omega)

set_option maxRecDepth 100000 in
set_option maxHeartbeats 400000 in
theorem uint_any (B b : Nat) (l : List UInt8) (room n : Nat) (w : World) (h1 : n ≤ 18446744073709551615) (hB : B ≤ w.heap.size) (hbuf : isBuf w B b l room) :
    Calls Try.prog 26 #[.pointer (some ⟨b, 0, none⟩), .int .u64 n] w (PutPost B b l (numb n) room w) := by
  have H1 := Lib.hid h1; clear h1
  have Hbuf := Lib.hid hbuf; clear hbuf
  go_enter Try.func26, Try.ntmps26
  go_wp2_with fail
  with_reducible refine (number_any n _ H1.out).mono ?_
  rintro e w1 ⟨v, rfl, hown, hbel⟩
  go_wp2_with fail
  with_reducible refine (put_any B b l (numb n) room v w1 (Nat.le_trans hB hbel.size) (Hbuf.out.nob (Chg.of_below hbel)) (isSrc_of_owns hown (numb_pos n)) (by have := numb_len10 H1.out; omega)).mono ?_
  rintro e w2 hp
  have Hp := Lib.hid hp
  rcases hp with ⟨_, rfl, _⟩ | ⟨_, rfl, _⟩
  · go_wp2
    go_ret
    exact PutPost.of_chg (Chg.of_below hbel) Hp.out
  · go_wp2
    go_ret
    exact PutPost.of_chg (Chg.of_below hbel) Hp.out

end Go.Proofs.Ytickdmalkmgkiaa
