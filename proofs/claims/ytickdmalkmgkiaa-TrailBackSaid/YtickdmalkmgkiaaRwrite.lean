/- ref23.Write. Condition: the trail lies in the world. -/
import Derived.Test.YtickdmalkmgkiaaRput
namespace Go.Proofs.Ytickdmalkmgkiaa
open Go.ChangeShapes Go.WideShapes Go.ChangeAt Go.RowKit

def RWrPost (c : Int) (L : List Step) (w : World) (e : Ending) (w' : World) : Prop :=
  Chg Nob w w' ∧ ((mayBe c L = false ∧ e = .returned (.tuple #[.slice none 0 0, .int .i64 1])) ∨ (mayBe c L = true ∧ ∃ v, e = .returned (.tuple #[v, .int .i64 0]) ∧ w'.ownsRow w.heap.size 5 1 v (tl c L).length ((tl c L).map bv)))
def RWrRel (W0 : World) (c : Int) (L : List Step) (v i : Value) (wr : World) : Prop :=
  ∃ k : Nat, i = .int .i64 k ∧ k ≤ L.length ∧ RP W0 (tpre c L.length ++ (L.take k).flatMap stepb) v wr

set_option maxRecDepth 100000 in
set_option maxHeartbeats 4000000 in
theorem RWrite_any (ao : Option Addr) (cap : Nat) (c : Int) (L : List Step) (w : World) (ht : IsTrail w ao L) :
    Calls Try.prog 17 #[.agg #[.slice ao L.length cap, .int .i64 c]] w (RWrPost c L w) := by
  have hlen := ht.1
  have Ht := Lib.hid ht
  clear ht
  go_enter Try.func17, Try.ntmps17
  go_wp2_with fail
  have hc0 : Chg Nob w (w.alloc (Obj.cells #[Value.slice ao L.length cap, Value.int IntKind.i64 c] 24)) := (Chg.refl _ _).alloc _
  have hb0 := cell_two (heap_alloc_new w (Obj.cells #[Value.slice ao L.length cap, Value.int IntKind.i64 c] 24))
  have hz0 : w.heap.size < (w.alloc (Obj.cells #[Value.slice ao L.length cap, Value.int IntKind.i64 c] 24)).heap.size := by simp
  generalize w.alloc (Obj.cells #[Value.slice ao L.length cap, Value.int IntKind.i64 c] 24) = W0 at *
  (with_reducible refine (tmay_any ao cap c L _ (Ht.out.chg hc0)).mono ?_)
  rintro e w2 ⟨rfl, hc2⟩
  cases hm : mayBe c L with
  | false =>
    go_wp2_with fail
    go_ret2
    exact ⟨hc0.trans1 hc2, .inl ⟨hm, rfl⟩⟩
  | true =>
    have kc := conv_const w2 #[Value.int IntKind.u8 83, Value.int IntKind.u8 88, Value.int IntKind.u8 84, Value.int IntKind.u8 49] w2.heap.size 4 4 rfl
    have hmh := may_head hm
    have hml := tpre_len hm
    have hg1 := numb_len3 (n := (c + 1).toNat) (by omega)
    have hg2 := numb_len3 (n := L.length) (by omega)
    have hkeep : ∀ u l v, RP W0 l v u → u.cell? ⟨w.heap.size, 0, none⟩ = some (.slice ao L.length cap) ∧ u.cell? ⟨w.heap.size, 1, none⟩ = some (.int .i64 c) ∧ Chg Nob w u := fun u l v hu =>
      ⟨hu.2.cell' hb0.1 (fun e => e), hu.2.cell' hb0.2.1 (fun e => e), hc0.trans1 hu.2⟩
    have Hkeep := Lib.hid hkeep
    have hcW : Chg Nob W0 (w2.alloc (Obj.cells #[Value.int IntKind.u8 83, Value.int IntKind.u8 88, Value.int IntKind.u8 84, Value.int IntKind.u8 49] 5 (4, 5))) := hc2.alloc _
    have hx0 : (w2.alloc (Obj.cells #[Value.int IntKind.u8 83, Value.int IntKind.u8 88, Value.int IntKind.u8 84, Value.int IntKind.u8 49] 5 (4, 5))).cell? ⟨w.heap.size, 0, none⟩ = some (.slice ao L.length cap) := hcW.cell' hb0.1 (fun e => e)
    have hx1 : (w2.alloc (Obj.cells #[Value.int IntKind.u8 83, Value.int IntKind.u8 88, Value.int IntKind.u8 84, Value.int IntKind.u8 49] 5 (4, 5))).cell? ⟨w.heap.size, 1, none⟩ = some (.int .i64 c) := hcW.cell' hb0.2.1 (fun e => e)
    have h1 : Calls Try.prog 50 #[.slice (some ⟨w2.heap.size, 0, none⟩) 4 4, .int .i64 (c + 1)] (w2.alloc (Obj.cells #[Value.int IntKind.u8 83, Value.int IntKind.u8 88, Value.int IntKind.u8 84, Value.int IntKind.u8 49] 5 (4, 5))) fun e w' => ∃ v', e = .returned v' ∧ RP W0 (magic ++ numb (c + 1).toNat) v' w' ∧ Keep5 (w2.alloc (Obj.cells #[Value.int IntKind.u8 83, Value.int IntKind.u8 88, Value.int IntKind.u8 84, Value.int IntKind.u8 49] 5 (4, 5))) w' := by
      have hm : c + 1 = ((c + 1).toNat : Int) := by omega
      rw [hm]
      refine rput_first (l := magic) (by omega) (by decide) (fun j u h => ?_) hcW
      refine cell_row (heap_alloc_new w2 _) j ?_
      have : j < 4 := by have := (List.getElem?_eq_some_iff.1 h).1; simpa [magic] using this
      match j, this with
      | 0, _ | 1, _ | 2, _ | 3, _ => simp [magic, bv] at h; subst h; rfl
    have Hg := Lib.hid (And.intro hg1 (And.intro hg2 (And.intro hmh.1 hml)))
    have hcb := hmh.2
    clear hmh hml hg1 hg2 hkeep hb0
    go_wp2_with fail
    clear hcb
    (with_reducible refine h1.mono ?_)
    clear h1 kc hx0 hx1
    rintro e w5 ⟨v5, rfl, h5, _⟩
    have h1 := rput_next (n := L.length) (by have := Hg.out; omega) (by rw [List.length_append]; have := Hg.out; have : magic.length = 4 := rfl; omega) h5
    obtain ⟨y0, y1, _⟩ := Hkeep.out _ _ _ h5
    clear h5
    go_wp2_with fail
    (with_reducible refine h1.mono ?_)
    clear h1 y0 y1
    rintro e w6 ⟨v6, rfl, h6, _⟩
    go_wp2_with fail
    go_loopw [5, 6] (fun v i wr => RWrRel W0 c L v i wr) (fun _ i _ => L.length - (intOf i).toNat)
    case atStart => exact ⟨0, rfl, by omega, by simpa [tpre, magic] using h6⟩
    case round =>
      clear h6
      obtain ⟨k, rfl, hk, hP⟩ := hrel
      have HP := Lib.hid hP
      obtain ⟨y0, y1, hcw⟩ := Hkeep.out _ _ _ hP
      clear hP
      by_cases hlt : k < L.length
      · obtain ⟨x, hx⟩ : ∃ x, L[k]? = some x := ⟨_, List.getElem?_eq_getElem hlt⟩
        obtain ⟨b2, o, hao, hbl, c0, c1, c2, c3⟩ := ((Ht.out.chg hcw).2 k x hx)
        subst hao
        have Hnext := Lib.hid (tl_next (c := c) (n := L.length) hx)
        have hok := okStep_in (may_step hm hx)
        have hpl := tl_part hm k (by omega)
        clear hx
        obtain ⟨xa, xb, xc, xd⟩ := x
        simp only at c0 c1 c2 c3 hok Hnext
        have hki : (k : Int) < (L.length : Int) := by omega
        have hk0 : (0 : Int) ≤ (k : Int) := by omega
        have Hok := Lib.hid hok
        have Hpl := Lib.hid (And.intro (numb_len2 hok.1.1 hok.1.2) (And.intro (numb_len2 hok.2.1.1 hok.2.1.2) (And.intro (numb_len2 hok.2.2.1.1 hok.2.2.1.2) (And.intro (numb_len2 hok.2.2.2.1 hok.2.2.2.2) (And.intro hpl (And.intro hlt (may_head hm).1))))))
        have hpl0 : (tpre c L.length ++ (L.take k).flatMap stepb).length ≤ 900000 := by have := Hpl.out; omega
        have Hpl0 := Lib.hid hpl0
        have Hblk := Lib.hid (heap_alloc_new wr (.cells #[.int .i64 xa, .int .i64 xb, .int .i64 xc, .int .i64 xd] 83))
        have HPa := Lib.hid (HP.out.keep ((Chg.refl Nob wr).alloc (.cells #[.int .i64 xa, .int .i64 xb, .int .i64 xc, .int .i64 xd] 83)))
        have hxa := hok.1
        have hxb := hok.2.1
        have hxc := hok.2.2.1
        have hxd := hok.2.2.2
        have hput : ∀ u l v x, RP W0 l v u → -1 ≤ x → x ≤ 4000 → l.length ≤ 1000000 → Calls Try.prog 50 #[v, .int .i64 (x + 1)] u fun e w' => ∃ v', e = .returned v' ∧ RP W0 (l ++ numb (x + 1).toNat) v' w' ∧ Keep5 u w' := by
          intro u l v x h1 h2 h3 h4
          have hm : x + 1 = ((x + 1).toNat : Int) := by omega
          rw [hm]
          exact rput_next (by omega) h4 h1
        have Hput := Lib.hid hput
        clear hok hpl hpl0 hlt hput
        go_wp2_with fail
        generalize wr.alloc (.cells #[.int .i64 xa, .int .i64 xb, .int .i64 xc, .int .i64 xd] 83) = w7 at *
        have h1 := Hput.out _ _ _ xa HPa.out Hok.out.1.1 Hok.out.1.2 (by have := Hpl0.out; omega)
        (with_reducible refine h1.mono ?_)
        clear h1
        rintro e w8 ⟨v8, rfl, h8, hk8⟩
        have Hb8 := Lib.hid (hk8 _ _ _ _ (by decide) Hblk.out)
        have f1 := cell_row Hb8.out 1 (v := .int .i64 xb) rfl
        have h1 := Hput.out _ _ _ xb h8 Hok.out.2.1.1 Hok.out.2.1.2 (by rw [List.length_append]; have := Hpl.out; have := Hpl0.out; omega)
        clear h8 hk8
        go_wp2_with fail
        (with_reducible refine h1.mono ?_)
        clear h1 f1
        rintro e w9 ⟨v9, rfl, h9, hk9⟩
        have Hb9 := Lib.hid (hk9 _ _ _ _ (by decide) Hb8.out)
        have f2 := cell_row Hb9.out 2 (v := .int .i64 xc) rfl
        have h1 := Hput.out _ _ _ xc h9 Hok.out.2.2.1.1 Hok.out.2.2.1.2 (by rw [List.length_append, List.length_append]; have := Hpl.out; have := Hpl0.out; omega)
        clear h9 hk9 Hb8
        go_wp2_with fail
        (with_reducible refine h1.mono ?_)
        clear h1 f2
        rintro e w10 ⟨v10, rfl, h10, hk10⟩
        have Hb10 := Lib.hid (hk10 _ _ _ _ (by decide) Hb9.out)
        have f3 := cell_row Hb10.out 3 (v := .int .i64 xd) rfl
        have h1 := Hput.out _ _ _ xd h10 Hok.out.2.2.2.1 Hok.out.2.2.2.2 (by rw [List.length_append, List.length_append, List.length_append]; have := Hpl.out; have := Hpl0.out; omega)
        clear h10 hk10 Hb9
        go_wp2_with fail
        (with_reducible refine h1.mono ?_)
        clear h1 f3
        rintro e w11 ⟨v11, rfl, h11, _⟩
        have H11 := Lib.hid h11
        clear h11
        go_wp2_with fail
        go_roundw
        case rel => exact ⟨k + 1, by go_num, by have := Hpl.out; omega, by rw [Hnext.out]; exact H11.out⟩
        case measure => simp [intOf]; omega
      · obtain rfl : k = L.length := by omega
        rw [List.take_length] at HP
        have Htl : Hid (tpre c L.length ++ L.flatMap stepb = tl c L) := rfl
        rw [Htl.out] at HP
        go_wp2_with fail
        go_ret2
        exact ⟨hcw, .inr ⟨hm, _, rfl, row_le (And.left HP.out) (by omega)⟩⟩

end Go.Proofs.Ytickdmalkmgkiaa
