/- trail.Write. Condition: the trail lies in the world. -/
import Derived.Test.YtickdmalkmgkiaaValid
import Derived.Test.YtickdmalkmgkiaaFixed
import Derived.Test.YtickdmalkmgkiaaKnown
import Derived.Lib.SlBytesConst
import Derived.Great.Walk
namespace Go.Proofs.Ytickdmalkmgkiaa
open Go.ChangeShapes Go.WideShapes Go.ChangeAt Go.RowKit

def stepb (x : Step) : List UInt8 := numb (x.1 + 1).toNat ++ numb (x.2.1 + 1).toNat ++ numb (x.2.2.1 + 1).toNat ++ numb (x.2.2.2 + 1).toNat
def magic : List UInt8 := [83, 88, 84, 49]
def tl (c : Int) (L : List Step) : List UInt8 := magic ++ numb (c + 1).toNat ++ numb L.length ++ L.flatMap stepb


/-- A buffer that is the only one of the old blocks to be written. -/
def PB (W0 : World) (b : Nat) (l : List UInt8) (wr : World) : Prop := isBuf wr W0.heap.size b l 16777216 ∧ Chg (At1 b) W0 wr
/-- What is no row of bytes, nor the buffer itself, stays. -/
def Keep (b : Nat) (w w' : World) : Prop := ∀ k cs t m, k ≠ b → t ≠ 5 → w.heap[k]? = some (.cells cs t m) → w'.heap[k]? = some (.cells cs t m)
theorem PB.nob {W0 w w' : World} {b : Nat} {l : List UInt8} (h : PB W0 b l w) (hc : Chg Nob w w') : PB W0 b l w' := ⟨h.1.nob hc, h.2.trans hc (fun _ _ e => e.elim)⟩
theorem PB.put {W0 wr w' : World} {b : Nat} {l s : List UInt8} {e : Ending} (h : PB W0 b l wr) (hp : PutPost W0.heap.size b l s 16777216 wr e w') (hl : l.length + s.length ≤ 16777216) : e = .returned (.int .i64 0) ∧ PB W0 b (l ++ s) w' ∧ Keep b wr w' := by
  rcases hp with ⟨_, he, hc, hb⟩ | ⟨h1, _⟩
  · exact ⟨he, ⟨hb, h.2.trans hc (fun i hi h => by rcases h with h | h; exact h; omega)⟩, fun k cs t m hk ht h => hc.at h (BufS.other h ht hk)⟩
  · omega
theorem PB.buf {W0 wr : World} {b : Nat} {l : List UInt8} (h : PB W0 b l wr) : isBuf wr W0.heap.size b l 16777216 := h.1
theorem PB.size {W0 wr : World} {b : Nat} {l : List UInt8} (h : PB W0 b l wr) : W0.heap.size ≤ wr.heap.size := h.2.size
theorem tuint {W0 wr : World} {b n : Nat} {l : List UInt8} (h : PB W0 b l wr) (hn : n ≤ 18446744073709551615) (hl : l.length + (numb n).length ≤ 16777216) :
    Calls Try.prog 26 #[.pointer (some ⟨b, 0, none⟩), .int .u64 n] wr fun e w' => e = .returned (.int .i64 0) ∧ PB W0 b (l ++ numb n) w' ∧ Keep b wr w' :=
  (uint_any W0.heap.size b l 16777216 n wr hn h.size h.1).mono fun _ _ hp => h.put hp hl
theorem tfixed {W0 wr : World} {b : Nat} {x : UInt8} {l : List UInt8} (h : PB W0 b l wr) (hl : l.length < 16777216) :
    Calls Try.prog 43 #[.pointer (some ⟨b, 0, none⟩), .int .u64 x.toNat, .int .i64 1] wr fun e w' => e = .returned (.int .i64 0) ∧ PB W0 b (l ++ [x]) w' ∧ Keep b wr w' := by
  have hx := x.toNat_lt
  have e1 : fixb x.toNat 1 = [x] := by simp [fixb]
  have h1 : Calls Try.prog 43 #[.pointer (some ⟨b, 0, none⟩), .int .u64 x.toNat, .int .i64 1] wr (PutPost W0.heap.size b l (fixb x.toNat 1) 16777216 wr) :=
    fixed_any W0.heap.size b l 16777216 x.toNat 1 wr (.inl rfl) (by omega) h.size h.1
  rw [e1] at h1
  exact h1.mono fun _ _ hp => h.put hp (by simp; omega)

set_option maxRecDepth 100000 in
theorem tput {W0 wr : World} {b pv : Nat} {x : Int} {l : List UInt8} (h : PB W0 b l wr) (hpv : W0.cell? ⟨pv, 0, none⟩ = some (.pointer (some ⟨b, 0, none⟩))) (hb : pv ≠ b) (x0 : -1 ≤ x) (x1 : x ≤ 1000000) (hl : l.length + (numb (x + 1).toNat).length ≤ 16777216) :
    Calls Try.prog 48 #[.int .i64 x, .pointer (some ⟨pv, 0, none⟩)] wr fun e w' => e = .returned (.tuple #[]) ∧ PB W0 b (l ++ numb (x + 1).toNat) w' ∧ Keep b wr w' := by
  have hc := h.2.cell' hpv (fun e => hb e)
  clear hpv
  have hu : Calls Try.prog 26 #[.pointer (some ⟨b, 0, none⟩), .int .u64 (x + 1)] wr fun e w' => e = .returned (.int .i64 0) ∧ PB W0 b (l ++ numb (x + 1).toNat) w' ∧ Keep b wr w' := by
    have hm : x + 1 = ((x + 1).toNat : Int) := by omega
    rw [hm]
    exact tuint h (by omega) hl
  go_enter Try.func48, Try.ntmps48
  go_wp2_with fail
  (with_reducible refine hu.mono ?_)
  rintro e w4 ⟨rfl, h4⟩
  go_wp2_with fail
  exact Go.Great.bodyPost_end0 rfl rfl ⟨rfl, h4⟩



theorem conv_const (w : World) (C : Array Value) (g n c : Nat) (hg : g = w.heap.size) : (convert 26 26 (.slice (some ⟨g, 0, none⟩) n c)).run Try.prog (w.alloc (.cells C 5)) = .ok (.slice (some ⟨g, 0, none⟩) n c) (w.alloc (.cells C 5 (C.size, C.size + 1))) := by
  subst hg; exact Lib.run_convert_bytes_const (P := Try.prog) w 26 5 C n c Try.underlying26 Try.underlying5

def MagRel (W0 : World) (b : Nat) (i : Value) (wr : World) : Prop :=
  ∃ k : Nat, i = .int .i64 k ∧ k ≤ 4 ∧ PB W0 b (magic.take k) wr
theorem may_head {c : Int} {L : List Step} (h : mayBe c L = true) : L.length ≤ 100000 ∧ -1 ≤ c ∧ c ≤ 100000 := by
  unfold mayBe headOk at h
  simp only [Bool.and_eq_true, Bool.not_eq_true', Bool.or_eq_false_iff, decide_eq_false_iff_not, Bool.and_eq_false_iff] at h
  obtain ⟨⟨⟨h1, h2⟩, h3⟩, _⟩ := h
  refine ⟨by omega, by omega, ?_⟩
  rcases h3 with h3 | h3 <;> omega
theorem inR_iff {n : Int} (h : inR n = true) : -1 ≤ n ∧ n ≤ 4000 := by
  unfold inR at h
  simp only [Bool.not_eq_true', Bool.or_eq_false_iff, decide_eq_false_iff_not] at h
  omega
theorem okStep_in {x : Step} (h : okStep x = true) : (-1 ≤ x.1 ∧ x.1 ≤ 4000) ∧ (-1 ≤ x.2.1 ∧ x.2.1 ≤ 4000) ∧ (-1 ≤ x.2.2.1 ∧ x.2.2.1 ≤ 4000) ∧ (-1 ≤ x.2.2.2 ∧ x.2.2.2 ≤ 4000) := by
  unfold okStep stepOk at h
  rw [Bool.and_eq_true] at h
  have h1 := h.1
  simp only [Bool.and_eq_true] at h1
  exact ⟨inR_iff h1.1.1.1, inR_iff h1.1.1.2, inR_iff h1.1.2, inR_iff h1.2⟩
theorem may_step {c : Int} {L : List Step} {k : Nat} {x : Step} (h : mayBe c L = true) (hk : L[k]? = some x) : okStep x = true := by
  unfold mayBe at h
  rw [Bool.and_eq_true, List.all_eq_true] at h
  exact h.2 x (List.mem_of_getElem? hk)
theorem numb_len2 {n : Int} (h1 : -1 ≤ n) (h2 : n ≤ 4000) : (numb (n + 1).toNat).length ≤ 2 := numb_len 1 _ (by simp only [Nat.reduceAdd, Nat.reducePow]; omega)
theorem numb_len3 {n : Nat} (h2 : n ≤ 100001) : (numb n).length ≤ 3 := numb_len 2 _ (by simp only [Nat.reduceAdd, Nat.reducePow]; omega)
theorem stepb_len {x : Step} (h : okStep x = true) : (stepb x).length ≤ 8 := by
  obtain ⟨h1, h2, h3, h4⟩ := okStep_in h
  have g1 := numb_len2 h1.1 h1.2
  have g2 := numb_len2 h2.1 h2.2
  have g3 := numb_len2 h3.1 h3.2
  have g4 := numb_len2 h4.1 h4.2
  unfold stepb
  simp only [List.length_append]
  omega
theorem steps_len : ∀ (L : List Step), (∀ x ∈ L, (stepb x).length ≤ 8) → (L.flatMap stepb).length ≤ 8 * L.length
  | [], _ => by simp
  | x :: L, h => by
    have h1 := h x (by simp)
    have h2 := steps_len L (fun y hy => h y (by simp [hy]))
    simp only [List.flatMap_cons, List.length_append, List.length_cons]
    omega
def tpre (c : Int) (n : Nat) : List UInt8 := magic ++ numb (c + 1).toNat ++ numb n
theorem tpre_len {c : Int} {L : List Step} (h : mayBe c L = true) : (tpre c L.length).length ≤ 10 := by
  have h1 := may_head h
  have g1 := numb_len3 (n := (c + 1).toNat) (by omega)
  have g2 := numb_len3 (n := L.length) (by omega)
  unfold tpre
  simp only [List.length_append]
  have : magic.length = 4 := rfl
  omega
theorem tl_part {c : Int} {L : List Step} (h : mayBe c L = true) (k : Nat) (hk : k ≤ L.length) : (tpre c L.length ++ (L.take k).flatMap stepb).length ≤ 10 + 8 * k := by
  have h1 := tpre_len h
  have h2 := steps_len (L.take k) (fun x hx => stepb_len (by
    obtain ⟨j, hj⟩ := List.mem_iff_getElem?.1 (List.mem_of_mem_take hx)
    exact may_step h hj))
  rw [List.length_append]
  rw [List.length_take] at h2
  have : min k L.length = k := by omega
  rw [this] at h2
  omega
theorem tl_next {c : Int} {n : Nat} {L : List Step} {k : Nat} {x : Step} (h : L[k]? = some x) : tpre c n ++ (L.take (k + 1)).flatMap stepb = tpre c n ++ (L.take k).flatMap stepb ++ numb (x.1 + 1).toNat ++ numb (x.2.1 + 1).toNat ++ numb (x.2.2.1 + 1).toNat ++ numb (x.2.2.2 + 1).toNat := by
  rw [List.take_add_one, h]
  simp [stepb]

def WrRel (W0 : World) (b : Nat) (c : Int) (L : List Step) (i : Value) (wr : World) : Prop :=
  ∃ k : Nat, i = .int .i64 k ∧ k ≤ L.length ∧ PB W0 b (tpre c L.length ++ (L.take k).flatMap stepb) wr
/-- Some bytes, as a slice. -/
def BytesAt (B : Nat) (w : World) (v : Value) (l : List UInt8) : Prop :=
  ∃ bk cp, v = .slice (some ⟨bk, 0, none⟩) l.length cp ∧ l.length ≤ cp ∧ B ≤ bk ∧ bk < w.heap.size ∧ ∀ j u, (l.map bv)[j]? = some u → w.cell? ⟨bk, j, none⟩ = some u
def WrPost (c : Int) (L : List Step) (w : World) (e : Ending) (w' : World) : Prop :=
  Chg Nob w w' ∧ ((mayBe c L = false ∧ e = .returned (.tuple #[.slice none 0 0, .int .i64 1])) ∨ (mayBe c L = true ∧ ∃ v, e = .returned (.tuple #[v, .int .i64 0]) ∧ BytesAt w.heap.size w' v (tl c L)))

set_option maxRecDepth 100000 in
set_option maxHeartbeats 4000000 in
theorem Write_any (ao : Option Addr) (cap : Nat) (c : Int) (L : List Step) (w : World) (ht : IsTrail w ao L) :
    Calls Try.prog 16 #[.agg #[.slice ao L.length cap, .int .i64 c]] w (WrPost c L w) := by
  have hlen := ht.1
  have Ht := Lib.hid ht
  clear ht
  go_enter Try.func16, Try.ntmps16
  go_wp2_with fail
  have hc0 : Chg Nob w (w.alloc (Obj.cells #[Value.slice ao L.length cap, Value.int IntKind.i64 c] 24)) := (Chg.refl _ _).alloc _
  have hb0 := cell_two (heap_alloc_new w (Obj.cells #[Value.slice ao L.length cap, Value.int IntKind.i64 c] 24))
  have hz0 : w.heap.size < (w.alloc (Obj.cells #[Value.slice ao L.length cap, Value.int IntKind.i64 c] 24)).heap.size := by simp
  generalize w.alloc (Obj.cells #[Value.slice ao L.length cap, Value.int IntKind.i64 c] 24) = w1 at *
  (with_reducible refine (valid_any ao cap c L _ (Ht.out.chg hc0)).mono ?_)
  rintro e w2 ⟨rfl, hc2⟩
  cases hm : mayBe c L with
  | false =>
    go_wp2_with fail
    go_ret2
    exact ⟨hc0.trans1 hc2, .inl ⟨hm, rfl⟩⟩
  | true =>
    go_wp2_with fail
    have hn0 : Calls Try.prog 24 #[.int .i64 16777216] w2 (NewPost 16777216 w2) := new_any 16777216 w2
    (with_reducible refine hn0.mono ?_)
    clear hn0
    rintro e w3 ⟨rfl, hnew, hc3, hz3e⟩
    have hz3 : w2.heap.size < w3.heap.size := by omega
    clear hz3e
    go_wp2_with fail
    have kc := conv_const (w3.alloc (Obj.cells #[Value.pointer (some { block := w2.heap.size, off := 0 })] 42)) #[Value.int IntKind.u8 83, Value.int IntKind.u8 88, Value.int IntKind.u8 84, Value.int IntKind.u8 49] (w3.heap.size + 1) 4 4 (by simp)
    rw [kc]
    go_wp2_with fail
    clear kc
    obtain ⟨W0, hW0⟩ : ∃ W0, W0 = ((w3.alloc (Obj.cells #[Value.pointer (some { block := w2.heap.size, off := 0 })] 42)).alloc (Obj.cells #[Value.int IntKind.u8 83, Value.int IntKind.u8 88, Value.int IntKind.u8 84, Value.int IntKind.u8 49] 5 (4, 5))) := ⟨_, rfl⟩
    rw [← hW0]
    have hcW : Chg Nob w3 W0 := by rw [hW0]; exact ((Chg.refl _ _).alloc _).alloc _
    have hPB : PB W0 w2.heap.size (magic.take 0) W0 := ⟨(hnew.chg hcW (fun e => e)).buf _, Chg.refl _ _⟩
    have hpv : W0.cell? ⟨w3.heap.size, 0, none⟩ = some (.pointer (some ⟨w2.heap.size, 0, none⟩)) := by
      rw [hW0]
      exact ((Chg.refl Nob _).alloc _).cell' (cell_row (heap_alloc_new w3 _) 0 (v := .pointer (some ⟨w2.heap.size, 0, none⟩)) rfl) (fun e => e)
    have h1 : W0.heap[w3.heap.size + 1]? = some (Obj.cells #[Value.int IntKind.u8 83, Value.int IntKind.u8 88, Value.int IntKind.u8 84, Value.int IntKind.u8 49] 5 (4, 5)) := by
      rw [hW0, show w3.heap.size + 1 = (w3.alloc (Obj.cells #[Value.pointer (some { block := w2.heap.size, off := 0 })] 42)).heap.size by simp]; exact heap_alloc_new _ _
    have hz4 : w3.heap.size + 1 < W0.heap.size := by rw [hW0]; simp
    have hrow : ∀ (k : Nat) (x : UInt8), magic[k]? = some x → ∀ u l, PB W0 w2.heap.size l u → u.cell? ⟨w3.heap.size + 1, k, none⟩ = some (.int .u8 x.toNat) := by
      intro k x hk u l hu
      refine hu.2.cell' (cell_row h1 k ?_) (fun e => by have e2 : w3.heap.size + 1 = w2.heap.size := e; omega)
      have : k < 4 := (List.getElem?_eq_some_iff.1 hk).1
      match k, this with
      | 0, _ | 1, _ | 2, _ | 3, _ => simp [magic] at hk; subst hk; rfl
    have hcw3 : Chg Nob w W0 := ((hc0.trans1 hc2).trans1 hc3).trans1 hcW
    have hzz : w1.heap.size ≤ w2.heap.size := hc2.size
    have hx0 : W0.cell? ⟨w.heap.size, 0, none⟩ = some (.slice ao L.length cap) := ((hc2.trans1 hc3).trans1 hcW).cell' hb0.1 (fun e => e)
    have hx1 : W0.cell? ⟨w.heap.size, 1, none⟩ = some (.int .i64 c) := ((hc2.trans1 hc3).trans1 hcW).cell' hb0.2.1 (fun e => e)
    have hkeep : ∀ u l, PB W0 w2.heap.size l u → u.cell? ⟨w3.heap.size, 0, none⟩ = some (.pointer (some ⟨w2.heap.size, 0, none⟩)) ∧ u.cell? ⟨w.heap.size, 0, none⟩ = some (.slice ao L.length cap) ∧ u.cell? ⟨w.heap.size, 1, none⟩ = some (.int .i64 c) ∧ Chg Nob w u := fun u l hu =>
      ⟨hu.2.cell' hpv (fun e => by have e2 : w3.heap.size = w2.heap.size := e; omega), hu.2.cell' hx0 (fun e => by have e2 : w.heap.size = w2.heap.size := e; omega), hu.2.cell' hx1 (fun e => by have e2 : w.heap.size = w2.heap.size := e; omega),
        hcw3.trans hu.2 (fun i hi e => by have e2 : i = w2.heap.size := e; omega)⟩
    have hput : ∀ u l x, PB W0 w2.heap.size l u → -1 ≤ x → x ≤ 1000000 → l.length + (numb (x + 1).toNat).length ≤ 16777216 →
        Calls Try.prog 48 #[.int .i64 x, .pointer (some ⟨w3.heap.size, 0, none⟩)] u fun e w' => e = .returned (.tuple #[]) ∧ PB W0 w2.heap.size (l ++ numb (x + 1).toNat) w' ∧ Keep w2.heap.size u w' := fun u l x h1 h2 h3 h4 =>
      tput h1 hpv (by omega) h2 h3 h4
    have Hput := Lib.hid hput
    have Hkeep := Lib.hid hkeep
    have Hrow := Lib.hid hrow
    have Hsep : Hid (w3.heap.size + 1 ≠ w2.heap.size) := by show _ ≠ _; omega
    clear hput hkeep hrow hx0 hx1 hzz hcw3 hz4 h1 hpv hcW hW0 hnew hc3 hc2 hb0 hc0 hz0 hz3
    generalize w2.heap.size = b at *
    generalize w3.heap.size = pv at *
    go_loopw [17] (fun i wr => MagRel W0 b i wr) (fun i _ => 4 - (intOf i).toNat)
    case atStart => exact ⟨0, rfl, by omega, hPB⟩
    case round =>
      clear hPB
      obtain ⟨k, rfl, hk, hP⟩ := hrel
      have HP := Lib.hid hP
      obtain ⟨y0, y1, y2, _⟩ := Hkeep.out _ _ hP
      clear hP
      by_cases hlt : k < 4
      · obtain ⟨x, hx⟩ : ∃ x, magic[k]? = some x := ⟨_, List.getElem?_eq_getElem (by simpa [magic] using hlt)⟩
        have hcx := Hrow.out k x hx _ _ HP.out
        have hn : magic.take (k + 1) = magic.take k ++ [x] := by rw [List.take_add_one, hx]; rfl
        have Hn := Lib.hid hn
        have hmt : (magic.take k).length < 16777216 := by have := List.length_take_le k magic; omega
        have hfx := tfixed (x := x) HP.out hmt
        clear hn hx hmt
        have hxl := x.toNat_lt
        go_wp2_with fail
        (with_reducible refine hfx.mono ?_)
        rintro e w5 ⟨rfl, h5, _⟩
        go_wp2_with fail
        go_roundw
        case rel => exact ⟨k + 1, by go_num, by omega, by rw [Hn.out]; exact h5⟩
        case measure => simp [intOf]; omega
      · obtain rfl : k = 4 := by omega
        have hmh := may_head hm
        have hml := tpre_len hm
        have hg1 := numb_len3 (n := (c + 1).toNat) (by omega)
        have hg2 := numb_len3 (n := L.length) (by omega)
        have hmg : (magic.take 4).length = 4 := rfl
        have h1 := Hput.out wr (magic.take 4) c HP.out hmh.2.1 (by omega) (by omega)
        have Hg := Lib.hid (And.intro hg1 (And.intro hg2 (And.intro hmh.1 hml)))
        clear hmh hml hg1 hg2
        go_wp2_with fail
        (with_reducible refine h1.mono ?_)
        clear h1
        rintro e w5 ⟨rfl, h5, _⟩
        have h1 : Calls Try.prog 26 #[.pointer (some ⟨b, 0, none⟩), .int .u64 L.length] w5 fun e w' => e = .returned (.int .i64 0) ∧ PB W0 b (magic.take 4 ++ numb (c + 1).toNat ++ numb L.length) w' ∧ Keep b w5 w' :=
          tuint h5 (by have := Hg.out; omega) (by rw [List.length_append]; have := Hg.out; omega)
        obtain ⟨y0, y1, y2, _⟩ := Hkeep.out _ _ h5
        clear h5 HP
        go_wp2_with fail
        (with_reducible refine h1.mono ?_)
        clear h1
        rintro e w6 ⟨rfl, h6, _⟩
        obtain ⟨y0, y1, y2, _⟩ := Hkeep.out _ _ h6
        go_wp2_with fail
        go_loopw [40] (fun i wr => WrRel W0 b c L i wr) (fun i _ => L.length - (intOf i).toNat)
        case atStart => exact ⟨0, rfl, by omega, by simpa [tpre, magic] using h6⟩
        case round =>
          clear h6 y0 y1 y2
          obtain ⟨k, rfl, hk, hP⟩ := hrel
          have HP := Lib.hid hP
          obtain ⟨y0, y1, y2, hcw⟩ := Hkeep.out _ _ hP
          clear hP
          by_cases hlt : k < L.length
          · obtain ⟨x, hx⟩ : ∃ x, L[k]? = some x := ⟨_, List.getElem?_eq_getElem hlt⟩
            obtain ⟨b2, o, hao, hbl, c0, c1, c2, c3⟩ := ((Ht.out.chg hcw).2 k x hx)
            subst hao
            have Hnext := Lib.hid (tl_next (c := c) (n := L.length) hx)
            have hok := okStep_in (may_step hm hx)
            have hpl := tl_part hm k (by omega)
            clear hx
            obtain ⟨xa, xb, xc, xd⟩ := x
            simp only at c0 c1 c2 c3 hok Hnext
            have hki : (k : Int) < (L.length : Int) := by omega
            have hk0 : (0 : Int) ≤ (k : Int) := by omega
            have Hok := Lib.hid hok
            have Hpl := Lib.hid (And.intro (numb_len2 hok.1.1 hok.1.2) (And.intro (numb_len2 hok.2.1.1 hok.2.1.2) (And.intro (numb_len2 hok.2.2.1.1 hok.2.2.1.2) (And.intro (numb_len2 hok.2.2.2.1 hok.2.2.2.2) (And.intro hpl (And.intro hlt (may_head hm).1))))))
            have hpl0 : (tpre c L.length ++ (L.take k).flatMap stepb).length ≤ 900000 := by have := Hpl.out; omega
            have Hpl0 := Lib.hid hpl0
            have hblk : (wr.alloc (.cells #[.int .i64 xa, .int .i64 xb, .int .i64 xc, .int .i64 xd] 83)).heap[wr.heap.size]? = some (.cells #[.int .i64 xa, .int .i64 xb, .int .i64 xc, .int .i64 xd] 83) := heap_alloc_new wr _
            have hne : wr.heap.size ≠ b := by have := HP.out.1.lt; omega
            have HPa := Lib.hid (HP.out.nob ((Chg.refl Nob wr).alloc (.cells #[.int .i64 xa, .int .i64 xb, .int .i64 xc, .int .i64 xd] 83)))
            have Hblk := Lib.hid hblk
            have Hne := Lib.hid hne
            clear hok hpl hpl0 hblk hne hlt
            go_wp2_with fail
            generalize wr.alloc (.cells #[.int .i64 xa, .int .i64 xb, .int .i64 xc, .int .i64 xd] 83) = w7 at *
            have h1 := Hput.out _ _ xa HPa.out Hok.out.1.1 (by have := Hok.out; omega) (by have := Hpl.out; have := Hpl0.out; omega)
            (with_reducible refine h1.mono ?_)
            clear h1
            rintro e w8 ⟨rfl, h8, hk8⟩
            have Hb8 := Lib.hid (hk8 _ _ _ _ Hne.out (by decide) Hblk.out)
            have f1 := cell_row Hb8.out 1 (v := .int .i64 xb) rfl
            have h1 := Hput.out _ _ xb h8 Hok.out.2.1.1 (by have := Hok.out; omega) (by rw [List.length_append]; have := Hpl.out; have := Hpl0.out; omega)
            clear h8 hk8
            go_wp2_with fail
            (with_reducible refine h1.mono ?_)
            clear h1 f1
            rintro e w9 ⟨rfl, h9, hk9⟩
            have Hb9 := Lib.hid (hk9 _ _ _ _ Hne.out (by decide) Hb8.out)
            have f2 := cell_row Hb9.out 2 (v := .int .i64 xc) rfl
            have h1 := Hput.out _ _ xc h9 Hok.out.2.2.1.1 (by have := Hok.out; omega) (by rw [List.length_append, List.length_append]; have := Hpl.out; have := Hpl0.out; omega)
            clear h9 hk9 Hb8
            go_wp2_with fail
            (with_reducible refine h1.mono ?_)
            clear h1 f2
            rintro e w10 ⟨rfl, h10, hk10⟩
            have Hb10 := Lib.hid (hk10 _ _ _ _ Hne.out (by decide) Hb9.out)
            have f3 := cell_row Hb10.out 3 (v := .int .i64 xd) rfl
            have h1 := Hput.out _ _ xd h10 Hok.out.2.2.2.1 (by have := Hok.out; omega) (by rw [List.length_append, List.length_append, List.length_append]; have := Hpl.out; have := Hpl0.out; omega)
            clear h10 hk10 Hb9
            go_wp2_with fail
            (with_reducible refine h1.mono ?_)
            clear h1 f3
            rintro e w11 ⟨rfl, h11, _⟩
            have H11 := Lib.hid h11
            clear h11
            go_wp2_with fail
            go_roundw
            case rel => exact ⟨k + 1, by go_num, by have := Hpl.out; omega, by rw [Hnext.out]; exact H11.out⟩
            case measure => simp [intOf]; omega
          · obtain rfl : k = L.length := by omega
            rw [List.take_length] at HP
            have Htl : Hid (tpre c L.length ++ L.flatMap stepb = tl c L) := rfl
            rw [Htl.out] at HP
            go_wp2_with fail
            (with_reducible refine (string_any _ _ _ _ _ (PB.buf HP.out)).mono ?_)
            rintro e w7 ⟨rfl, rfl⟩
            have hcv := run_conv ⟨(tl c L).toArray⟩ wr
            have Hw := Lib.hid (convW_chg ⟨(tl c L).toArray⟩ wr)
            have Hs := Lib.hid (convW_size ⟨(tl c L).toArray⟩ wr)
            have Hcell := Lib.hid (convW_cell ⟨(tl c L).toArray⟩ wr)
            have Hge := Lib.hid (convC_ge ⟨(tl c L).toArray⟩ wr)
            have hsz : (⟨(tl c L).toArray⟩ : ByteArray).size = (tl c L).length := by show (tl c L).toArray.size = _; simp
            rw [hsz] at hcv Hge
            generalize convW ⟨(tl c L).toArray⟩ wr = wz at *
            generalize convC ⟨(tl c L).toArray⟩ wr = cz at *
            have hww := hcw.size
            go_wp2_with fail
            go_ret2
            exact ⟨hcw.trans1 Hw.out, .inr ⟨hm, _, rfl, _, _, rfl, Hge.out, hww, by rw [Hs.out]; omega, fun j u h => Hcell.out j u (by simpa using h)⟩⟩

end Go.Proofs.Ytickdmalkmgkiaa
