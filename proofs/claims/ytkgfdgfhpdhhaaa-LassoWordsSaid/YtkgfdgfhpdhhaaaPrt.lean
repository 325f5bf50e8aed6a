/- ltl's printer: a formula's text. Conditions: the tree lies in the world, it may be; the printer does. -/
import Derived.Test.YtkgfdgfhpdhhaaaBld
import Derived.Test.YtkgfdgfhpdhhaaaText
import Derived.Test.YtkgfdgfhpdhhaaaLev
import Derived.Deep.RegionWith
namespace Go.Proofs.Ytkgfdgfhpdhhaaa
open Go.ChangeShapes Go.WideShapes Go.RowKit

set_option maxHeartbeats 1000000 in
theorem rank_any (k : Int) (w : World) : Calls Try.prog 112 #[.int .i64 k] w (Rets (.int .i64 (rankK k)) w) := by
  go_enter Try.func112, Try.ntmps112
  go_wp2
  all_goals go_ret
  all_goals (refine ⟨?_, rfl⟩; show Ending.returned (Value.int _ _) = Ending.returned (Value.int _ _); refine congrArg (fun q => Ending.returned (Value.int .i64 q)) ?_; unfold rankK; (try simp_all) <;> (repeat' split) <;> omega)

theorem wbyte_lit (w : World) (pb B : Nat) (l : List UInt8) (c : UInt8) (z : Int) (hz : z = (c.toNat : Int)) (h : Bd w pb B l) (hl : l.length ≤ 1000000000) : Calls Try.prog 88 #[.pointer (some ⟨pb, 0, none⟩), .int .u8 z] w fun e w' => e = .returned .nilIface ∧ Bd w' pb B (l ++ [c]) ∧ BdC pb B w w' := by
  subst hz
  exact wbyte_any w pb B l c h hl
def PrtPost (pb B : Nat) (l x : List UInt8) (w : World) (e : Ending) (w' : World) : Prop := e = .returned (.tuple #[]) ∧ ∃ l', Prt l x l' ∧ Bd w' pb B l' ∧ BdC pb B w w'
/-- What the printing of a formula's part promises. -/
def PartC (t : T) : Prop := ∀ (R : Nat → Prop) (w : World) (pb B : Nat) (l : List UInt8) (v : Value), IsTree R w t v → (∀ b, R b → b < B ∧ b ≠ pb) → Bd w pb B l → l.length + (textT t).length ≤ 500000000 → Calls Try.prog 60 #[.pointer (some ⟨pb, 0, none⟩), v] w (PrtPost pb B l (textT t) w)

set_option maxRecDepth 100000 in
set_option maxHeartbeats 2000000 in
theorem kid_any (t : T) (hp : PartC t) (R : Nat → Prop) (w : World) (pb B : Nat) (l : List UInt8) (v : Value) (least : Int) (ht : IsTree R w t v) (hR : ∀ b, R b → b < B ∧ b ≠ pb) (hB : Bd w pb B l) (hl : l.length + (within t.kind least (textT t)).length ≤ 500000000) :
    Calls Try.prog 89 #[.pointer (some ⟨pb, 0, none⟩), v, .int .i64 least] w (PrtPost pb B l (within t.kind least (textT t)) w) := by
  have Ht := Lib.hid ht
  obtain ⟨ao, cap, rfl, hlen, _⟩ := ht.parts
  have hcW : Chg Nob w (w.alloc (.cells #[.int .i64 t.kind, .string ⟨t.name.toArray⟩, .slice ao t.kids.length cap] 37)) := (Chg.refl _ _).alloc _
  have hbox := heap_alloc_new w (.cells #[.int .i64 t.kind, .string ⟨t.name.toArray⟩, .slice ao t.kids.length cap] 37)
  have Hbox := Lib.hid hbox
  have hpb : pb ≠ w.heap.size := by have := hB.lt; omega
  clear ht hbox
  go_enter Try.func89, Try.ntmps89
  go_wp2_with fail
  generalize w.alloc (.cells #[.int .i64 t.kind, .string ⟨t.name.toArray⟩, .slice ao t.kids.length cap] 37) = W at *
  (with_reducible refine (rank_any _ _).mono ?_)
  rintro e w1 ⟨rfl, rfl⟩
  have hBW := hB.nob hcW
  by_cases hr : rankK t.kind < least
  · have hw : within t.kind least (textT t) = [40] ++ textT t ++ [41] := if_pos hr
    rw [hw] at hl
    simp only [List.length_append, List.length_cons, List.length_nil] at hl
    have Hw := Lib.hid hw
    clear hw
    go_wp2_with fail
    (with_reducible refine (wbyte_lit _ pb B l 40 40 rfl hBW (by omega)).mono ?_)
    rintro e w2 ⟨rfl, hB2, hc2⟩
    have hbox2 := hc2.at Hbox.out (fun e => hpb e.symm) (by decide)
    obtain ⟨c0, c1, c2, _⟩ := cells_three hbox2
    have Hbox2 := Lib.hid hbox2
    clear hbox2
    have hcall := hp R w2 pb B _ _ (hc2.tree (Ht.out.nob hcW) hR) hR hB2 (by rw [List.length_append]; simp only [List.length_cons, List.length_nil]; omega)
    go_wp2_with fail
    (with_reducible refine hcall.mono ?_)
    clear hcall
    rintro e w3 ⟨rfl, l3, hp3, hB3, hc3⟩
    have hl3 := hp3.1
    rw [List.length_append] at hl3
    simp only [List.length_cons, List.length_nil] at hl3
    go_wp2_with fail
    (with_reducible refine (wbyte_lit _ pb B l3 41 41 rfl hB3 (by omega)).mono ?_)
    rintro e w4 ⟨rfl, hB4, hc4⟩
    have Hc := Lib.hid (((BdC.nob hcW).trans hc2).trans (hc3.trans hc4))
    have Hp := Lib.hid (((Prt.all l [40]).trans hp3).trans (Prt.all l3 [41]))
    clear c0 c1 c2 hp3
    go_wp2
    go_end0
    exact ⟨rfl, _, by rw [Hw.out]; exact Hp.out, hB4, Hc.out⟩
  · have hw : within t.kind least (textT t) = textT t := if_neg hr
    rw [hw] at hl
    have Hw := Lib.hid hw
    clear hw
    obtain ⟨c0, c1, c2, _⟩ := cells_three Hbox.out
    have hcall := hp R W pb B _ _ (Ht.out.nob hcW) hR hBW hl
    go_wp2_with fail
    (with_reducible refine hcall.mono ?_)
    clear hcall
    rintro e w3 ⟨rfl, l3, hp3, hB3, hc3⟩
    have Hp := Lib.hid hp3
    clear hp3 c0 c1 c2
    go_wp2
    go_end0
    exact ⟨rfl, _, by rw [Hw.out]; exact Hp.out, hB3, (BdC.nob hcW).trans hc3⟩

set_option maxRecDepth 100000 in
set_option maxHeartbeats 2000000 in
theorem sides_any (t a b : T) (hk : t.kids = [a, b]) (hpa : PartC a) (hpb : PartC b) (R : Nat → Prop) (w : World) (pb B : Nat) (l op : List UInt8) (v : Value) (left right : Int) (ht : IsTree R w t v) (hR : ∀ b, R b → b < B ∧ b ≠ pb) (hB : Bd w pb B l)
    (hl : l.length + ((within a.kind left (textT a)).length + op.length + (within b.kind right (textT b)).length) ≤ 500000000) :
    Calls Try.prog 90 #[.pointer (some ⟨pb, 0, none⟩), v, .string ⟨op.toArray⟩, .int .i64 left, .int .i64 right] w (PrtPost pb B l (within a.kind left (textT a) ++ op ++ within b.kind right (textT b)) w) := by
  have Ht := Lib.hid ht
  obtain ⟨ao, cap, rfl, hlen, hkids⟩ := ht.parts
  have hcW : Chg Nob w (w.alloc (.cells #[.int .i64 t.kind, .string ⟨t.name.toArray⟩, .slice ao t.kids.length cap] 37)) := (Chg.refl _ _).alloc _
  have hbox := heap_alloc_new w (.cells #[.int .i64 t.kind, .string ⟨t.name.toArray⟩, .slice ao t.kids.length cap] 37)
  rw [hk] at hkids
  obtain ⟨b1, o1, ak, capk, hao, hRb, p0, p1, p2, _, _, hta⟩ := hkids.kid (j := 0) (t := a) rfl
  obtain ⟨b2, o2, bk, bcapk, hao2, hRb2, q0, q1, q2, _, _, htb⟩ := hkids.kid (j := 1) (t := b) rfl
  subst hao
  cases hao2
  have hlen2 : t.kids.length = 2 := by rw [hk]; rfl
  rw [hlen2] at hcW hbox ⊢
  have hpbs : pb ≠ w.heap.size := by have := hB.lt; omega
  have Hbox := Lib.hid hbox
  rw [Nat.zero_mul, Nat.add_zero] at p0 p1 p2
  rw [Nat.one_mul] at q0 q1 q2
  have Hq := Lib.hid (And.intro q0 (And.intro q1 q2))
  have p0' := hcW.cell' p0 (fun e => e)
  have p1' := hcW.cell' p1 (fun e => e)
  have p2' := hcW.cell' p2 (fun e => e)
  have Hta := Lib.hid hta
  have Htb := Lib.hid htb
  clear ht hbox hkids hk p0 p1 p2 q0 q1 q2 hta htb hlen2
  go_enter Try.func90, Try.ntmps90
  go_wp2_with fail
  generalize w.alloc (.cells #[.int .i64 t.kind, .string ⟨t.name.toArray⟩, .slice (some ⟨b1, o1, none⟩) 2 cap] 37) = W at *
  (with_reducible refine (kid_any a hpa R W pb B l _ left (Hta.out.nob hcW) hR (hB.nob hcW) (by omega)).mono ?_)
  rintro e w2 ⟨rfl, l2, hp2, hB2, hc2⟩
  have hl2 := hp2.1
  clear p0' p1' p2'
  go_wp2_with fail
  (with_reducible refine (wstring_any _ pb B l2 op hB2 (by omega) (by omega)).mono ?_)
  rintro e w3 ⟨rfl, hB3, hc3⟩
  have hc23 := hc2.trans hc3
  have hbox3 := hc23.at Hbox.out (fun e => hpbs e.symm) (by decide)
  obtain ⟨c0, c1, c2, _⟩ := cells_three hbox3
  have hsame : ∀ (x : Addr) (u : Value), x.block = b1 → w.cell? x = some u → w3.cell? x = some u := fun x u hx hu => Chg.cell' hc23 (hcW.cell' hu (fun e => e)) (fun e => by
    have h1 := hR b1 hRb
    rcases e with e | ⟨e, _⟩
    · exact h1.2 (hx ▸ e)
    · rw [hx] at e; omega)
  have q0' := hsame ⟨b1, o1 + 3, none⟩ _ rfl Hq.out.1
  have q1' := hsame ⟨b1, o1 + 3 + 1, none⟩ _ rfl Hq.out.2.1
  have q2' := hsame ⟨b1, o1 + 3 + 2, none⟩ _ rfl Hq.out.2.2
  have hkb := kid_any b hpb R w3 pb B (l2 ++ op) _ right (hc23.tree (Htb.out.nob hcW) hR) hR hB3 (by rw [List.length_append]; omega)
  clear hbox3 hsame
  go_wp2_with fail
  (with_reducible refine hkb.mono ?_)
  clear hkb
  rintro e w4 ⟨rfl, l4, hp4, hB4, hc4⟩
  have Hp := Lib.hid ((hp2.trans (Prt.all l2 op)).trans hp4)
  have Hc := Lib.hid ((BdC.nob hcW).trans (hc23.trans hc4))
  clear hp2 hp4 c0 c1 c2 q0' q1' q2'
  go_wp2
  go_end0
  exact ⟨rfl, _, Hp.out, hB4, Hc.out⟩

set_option maxRecDepth 100000 in
set_option maxHeartbeats 8000000 in
theorem part_any : ∀ t : T, mayT t = true → PartC t := by
  refine kid_induct ?_
  intro t ih hmay R w pb B l v ht hR hB hl
  have Ht := Lib.hid ht
  obtain ⟨ao, cap, rfl, hlen, hkids⟩ := ht.parts
  obtain ⟨k, nm, kids⟩ := t
  simp only [T.kind, T.name, T.kids] at hlen hkids ih Ht ⊢
  have hcW : Chg Nob w (w.alloc (.cells #[.int .i64 k, .string ⟨nm.toArray⟩, .slice ao kids.length cap] 37)) := (Chg.refl _ _).alloc _
  have hbox := heap_alloc_new w (.cells #[.int .i64 k, .string ⟨nm.toArray⟩, .slice ao kids.length cap] 37)
  have Hbox := Lib.hid hbox
  have hpbs : pb ≠ w.heap.size := by have := hB.lt; omega
  have hBW := hB.nob hcW
  have HBW := Lib.hid hBW
  have Ih := Lib.hid ih
  have Hk := Lib.hid hkids
  have Hmay := Lib.hid hmay
  clear ht hbox ih hkids hmay
  have hlenb : l.length ≤ 500000000 := by omega
  by_cases hlong : 4096 < l.length
  · have hli : (4096 : Int) < (l.length : Int) := by omega
    go_enter Try.func60, Try.ntmps60
    go_wp2_with fail
    (with_reducible refine (len_any _ pb B l HBW.out).mono ?_)
    rintro e w1 ⟨rfl, rfl⟩
    go_wp2
    go_end0
    exact ⟨rfl, l, Prt.too _ hlong, HBW.out, BdC.nob hcW⟩
  · have hli : ¬ (4096 : Int) < (l.length : Int) := by omega
    have htx : textT (.node k nm kids) = if k = 1 then [116, 114, 117, 101] else if k = 2 then [102, 97, 108, 115, 101] else if k = 3 then nm else textL k kids := by rw [textT]
    rcases may_shape Hmay.out with ⟨hk, hn, hkd⟩ | ⟨hk, hn, hkd⟩ | ⟨hk, hn, a, hkd, hma⟩ | ⟨hk, hn, a, b, hkd, hma, hmb⟩
    all_goals simp only [T.kind, T.name, T.kids] at hk hn hkd
    all_goals subst hkd
    · subst hn
      simp only [List.length_nil] at hcW HBW Hbox ⊢
      rcases hk with rfl | rfl
      · rw [if_pos rfl] at htx
        rw [htx] at hl ⊢
        clear htx
        go_enter Try.func60, Try.ntmps60
        go_wp2_with fail
        generalize w.alloc (.cells #[.int .i64 1, .string ⟨#[]⟩, .slice ao 0 cap] 37) = W at *
        (with_reducible refine (len_any _ pb B l HBW.out).mono ?_)
        rintro e w1 ⟨rfl, rfl⟩
        obtain ⟨c0, c1, c2, _⟩ := cells_three Hbox.out
        go_wp2_with fail
        (with_reducible refine (wstring_any _ pb B l [116, 114, 117, 101] HBW.out (by omega) (by decide)).mono ?_)
        rintro e w2 ⟨rfl, hB2, hc2⟩
        go_wp2
        go_end0
        exact ⟨rfl, _, Prt.all l _, hB2, (BdC.nob hcW).trans hc2⟩
      · rw [if_neg (by decide), if_pos rfl] at htx
        rw [htx] at hl ⊢
        clear htx
        go_enter Try.func60, Try.ntmps60
        go_wp2_with fail
        generalize w.alloc (.cells #[.int .i64 2, .string ⟨#[]⟩, .slice ao 0 cap] 37) = W at *
        (with_reducible refine (len_any _ pb B l HBW.out).mono ?_)
        rintro e w1 ⟨rfl, rfl⟩
        obtain ⟨c0, c1, c2, _⟩ := cells_three Hbox.out
        go_wp2_with fail
        (with_reducible refine (wstring_any _ pb B l [102, 97, 108, 115, 101] HBW.out (by omega) (by decide)).mono ?_)
        rintro e w2 ⟨rfl, hB2, hc2⟩
        go_wp2
        go_end0
        exact ⟨rfl, _, Prt.all l _, hB2, (BdC.nob hcW).trans hc2⟩
    · subst hk
      rw [if_neg (by decide), if_neg (by decide), if_pos rfl] at htx
      rw [htx] at hl ⊢
      clear htx
      simp only [List.length_nil] at hcW HBW Hbox ⊢
      have hnl := name_length hn
      go_enter Try.func60, Try.ntmps60
      go_wp2_with fail
      generalize w.alloc (.cells #[.int .i64 3, .string ⟨nm.toArray⟩, .slice ao 0 cap] 37) = W at *
      (with_reducible refine (len_any _ pb B l HBW.out).mono ?_)
      rintro e w1 ⟨rfl, rfl⟩
      obtain ⟨c0, c1, c2, _⟩ := cells_three Hbox.out
      have hws := wstring_any W.drew pb B l nm (HBW.out.nob (Chg.refl _ _).drew) (by omega) (by omega)
      go_wp2_with fail
      go_region_with (go_at_call 87; refine (hws).mono ?_; rintro e w2 ⟨rfl, hB2, hc2⟩)
      all_goals (go_wp2; go_end0; exact ⟨rfl, _, Prt.all l _, hB2, (BdC.nob hcW).trans ((BdC.nob (Chg.refl _ _).drew).trans hc2)⟩)
    · subst hn
      obtain ⟨b1, o1, ak, capk, hao, hRb, p0, p1, p2, _, _, hta⟩ := Hk.out.kid (j := 0) (t := a) rfl
      subst hao
      rw [Nat.zero_mul, Nat.add_zero] at p0 p1 p2
      have Hp0 := Lib.hid (And.intro p0 (And.intro p1 p2))
      have Hta := Lib.hid hta
      have hpart := Ih.out a List.mem_cons_self hma
      simp only [List.length_cons, List.length_nil, Nat.zero_add] at hcW HBW Hbox ⊢
      rw [if_neg (by omega), if_neg (by omega), if_neg (by omega), textL_one] at htx
      rw [htx, List.length_append] at hl
      rw [htx]
      clear p0 p1 p2 hta htx hlen
      have hk4 : k = 4 ∨ k = 5 ∨ k = 6 ∨ k = 7 := by omega
      clear hk
      rcases hk4 with rfl | rfl | rfl | rfl
      · rw [show preText 4 = [33] from rfl] at hl ⊢
        simp only [List.length_cons, List.length_nil] at hl
        go_enter Try.func60, Try.ntmps60
        go_wp2_with fail
        generalize w.alloc (.cells #[.int .i64 4, .string ⟨#[]⟩, .slice (some ⟨b1, o1, none⟩) 1 cap] 37) = W at *
        (with_reducible refine (len_any _ pb B l HBW.out).mono ?_)
        rintro e w1 ⟨rfl, rfl⟩
        obtain ⟨c0, c1, c2, _⟩ := cells_three Hbox.out
        go_wp2_with fail
        (with_reducible refine (wbyte_lit _ pb B l 33 33 rfl HBW.out (by omega)).mono ?_)
        rintro e w2 ⟨rfl, hB2, hc2⟩
        clear c0 c1 c2
        obtain ⟨c0, c1, c2, _⟩ := cells_three (hc2.at Hbox.out (fun e => hpbs e.symm) (by decide))
        have hsame : ∀ (x : Addr) (u : Value), x.block = b1 → w.cell? x = some u → w2.cell? x = some u := fun x u hx hu => Chg.cell' hc2 (hcW.cell' hu (fun e => e)) (fun e => by
          have h1 := hR b1 hRb
          rcases e with e | ⟨e, _⟩
          · exact h1.2 (hx ▸ e)
          · rw [hx] at e; omega)
        have q0' := hsame ⟨b1, o1, none⟩ _ rfl Hp0.out.1
        have q1' := hsame ⟨b1, o1 + 1, none⟩ _ rfl Hp0.out.2.1
        have q2' := hsame ⟨b1, o1 + 2, none⟩ _ rfl Hp0.out.2.2
        have hkb := kid_any a hpart R w2 pb B _ _ 5 (hc2.tree (Hta.out.nob hcW) hR) hR hB2 (by rw [List.length_append]; simp only [List.length_cons, List.length_nil]; omega)
        clear hsame
        go_wp2_with fail
        (with_reducible refine hkb.mono ?_)
        clear hkb
        rintro e w4 ⟨rfl, l4, hp4, hB4, hc4⟩
        have Hp := Lib.hid ((Prt.all l _).trans hp4)
        have Hc := Lib.hid ((BdC.nob hcW).trans (hc2.trans hc4))
        clear hp4 c0 c1 c2 q0' q1' q2'
        go_wp2
        go_end0
        exact ⟨rfl, _, Hp.out, hB4, Hc.out⟩
      · rw [show preText 5 = [88, 32] from rfl] at hl ⊢
        simp only [List.length_cons, List.length_nil] at hl
        go_enter Try.func60, Try.ntmps60
        go_wp2_with fail
        generalize w.alloc (.cells #[.int .i64 5, .string ⟨#[]⟩, .slice (some ⟨b1, o1, none⟩) 1 cap] 37) = W at *
        (with_reducible refine (len_any _ pb B l HBW.out).mono ?_)
        rintro e w1 ⟨rfl, rfl⟩
        obtain ⟨c0, c1, c2, _⟩ := cells_three Hbox.out
        go_wp2_with fail
        (with_reducible refine (wstring_any _ pb B l [88, 32] HBW.out (by omega) (by decide)).mono ?_)
        rintro e w2 ⟨rfl, hB2, hc2⟩
        clear c0 c1 c2
        obtain ⟨c0, c1, c2, _⟩ := cells_three (hc2.at Hbox.out (fun e => hpbs e.symm) (by decide))
        have hsame : ∀ (x : Addr) (u : Value), x.block = b1 → w.cell? x = some u → w2.cell? x = some u := fun x u hx hu => Chg.cell' hc2 (hcW.cell' hu (fun e => e)) (fun e => by
          have h1 := hR b1 hRb
          rcases e with e | ⟨e, _⟩
          · exact h1.2 (hx ▸ e)
          · rw [hx] at e; omega)
        have q0' := hsame ⟨b1, o1, none⟩ _ rfl Hp0.out.1
        have q1' := hsame ⟨b1, o1 + 1, none⟩ _ rfl Hp0.out.2.1
        have q2' := hsame ⟨b1, o1 + 2, none⟩ _ rfl Hp0.out.2.2
        have hkb := kid_any a hpart R w2 pb B _ _ 5 (hc2.tree (Hta.out.nob hcW) hR) hR hB2 (by rw [List.length_append]; simp only [List.length_cons, List.length_nil]; omega)
        clear hsame
        go_wp2_with fail
        (with_reducible refine hkb.mono ?_)
        clear hkb
        rintro e w4 ⟨rfl, l4, hp4, hB4, hc4⟩
        have Hp := Lib.hid ((Prt.all l _).trans hp4)
        have Hc := Lib.hid ((BdC.nob hcW).trans (hc2.trans hc4))
        clear hp4 c0 c1 c2 q0' q1' q2'
        go_wp2
        go_end0
        exact ⟨rfl, _, Hp.out, hB4, Hc.out⟩
      · rw [show preText 6 = [91, 93, 32] from rfl] at hl ⊢
        simp only [List.length_cons, List.length_nil] at hl
        go_enter Try.func60, Try.ntmps60
        go_wp2_with fail
        generalize w.alloc (.cells #[.int .i64 6, .string ⟨#[]⟩, .slice (some ⟨b1, o1, none⟩) 1 cap] 37) = W at *
        (with_reducible refine (len_any _ pb B l HBW.out).mono ?_)
        rintro e w1 ⟨rfl, rfl⟩
        obtain ⟨c0, c1, c2, _⟩ := cells_three Hbox.out
        go_wp2_with fail
        (with_reducible refine (wstring_any _ pb B l [91, 93, 32] HBW.out (by omega) (by decide)).mono ?_)
        rintro e w2 ⟨rfl, hB2, hc2⟩
        clear c0 c1 c2
        obtain ⟨c0, c1, c2, _⟩ := cells_three (hc2.at Hbox.out (fun e => hpbs e.symm) (by decide))
        have hsame : ∀ (x : Addr) (u : Value), x.block = b1 → w.cell? x = some u → w2.cell? x = some u := fun x u hx hu => Chg.cell' hc2 (hcW.cell' hu (fun e => e)) (fun e => by
          have h1 := hR b1 hRb
          rcases e with e | ⟨e, _⟩
          · exact h1.2 (hx ▸ e)
          · rw [hx] at e; omega)
        have q0' := hsame ⟨b1, o1, none⟩ _ rfl Hp0.out.1
        have q1' := hsame ⟨b1, o1 + 1, none⟩ _ rfl Hp0.out.2.1
        have q2' := hsame ⟨b1, o1 + 2, none⟩ _ rfl Hp0.out.2.2
        have hkb := kid_any a hpart R w2 pb B _ _ 5 (hc2.tree (Hta.out.nob hcW) hR) hR hB2 (by rw [List.length_append]; simp only [List.length_cons, List.length_nil]; omega)
        clear hsame
        go_wp2_with fail
        (with_reducible refine hkb.mono ?_)
        clear hkb
        rintro e w4 ⟨rfl, l4, hp4, hB4, hc4⟩
        have Hp := Lib.hid ((Prt.all l _).trans hp4)
        have Hc := Lib.hid ((BdC.nob hcW).trans (hc2.trans hc4))
        clear hp4 c0 c1 c2 q0' q1' q2'
        go_wp2
        go_end0
        exact ⟨rfl, _, Hp.out, hB4, Hc.out⟩
      · rw [show preText 7 = [60, 62, 32] from rfl] at hl ⊢
        simp only [List.length_cons, List.length_nil] at hl
        go_enter Try.func60, Try.ntmps60
        go_wp2_with fail
        generalize w.alloc (.cells #[.int .i64 7, .string ⟨#[]⟩, .slice (some ⟨b1, o1, none⟩) 1 cap] 37) = W at *
        (with_reducible refine (len_any _ pb B l HBW.out).mono ?_)
        rintro e w1 ⟨rfl, rfl⟩
        obtain ⟨c0, c1, c2, _⟩ := cells_three Hbox.out
        go_wp2_with fail
        (with_reducible refine (wstring_any _ pb B l [60, 62, 32] HBW.out (by omega) (by decide)).mono ?_)
        rintro e w2 ⟨rfl, hB2, hc2⟩
        clear c0 c1 c2
        obtain ⟨c0, c1, c2, _⟩ := cells_three (hc2.at Hbox.out (fun e => hpbs e.symm) (by decide))
        have hsame : ∀ (x : Addr) (u : Value), x.block = b1 → w.cell? x = some u → w2.cell? x = some u := fun x u hx hu => Chg.cell' hc2 (hcW.cell' hu (fun e => e)) (fun e => by
          have h1 := hR b1 hRb
          rcases e with e | ⟨e, _⟩
          · exact h1.2 (hx ▸ e)
          · rw [hx] at e; omega)
        have q0' := hsame ⟨b1, o1, none⟩ _ rfl Hp0.out.1
        have q1' := hsame ⟨b1, o1 + 1, none⟩ _ rfl Hp0.out.2.1
        have q2' := hsame ⟨b1, o1 + 2, none⟩ _ rfl Hp0.out.2.2
        have hkb := kid_any a hpart R w2 pb B _ _ 5 (hc2.tree (Hta.out.nob hcW) hR) hR hB2 (by rw [List.length_append]; simp only [List.length_cons, List.length_nil]; omega)
        clear hsame
        go_wp2_with fail
        (with_reducible refine hkb.mono ?_)
        clear hkb
        rintro e w4 ⟨rfl, l4, hp4, hB4, hc4⟩
        have Hp := Lib.hid ((Prt.all l _).trans hp4)
        have Hc := Lib.hid ((BdC.nob hcW).trans (hc2.trans hc4))
        clear hp4 c0 c1 c2 q0' q1' q2'
        go_wp2
        go_end0
        exact ⟨rfl, _, Hp.out, hB4, Hc.out⟩
    · subst hn
      have hpa := Ih.out a List.mem_cons_self hma
      have hpb := Ih.out b (List.mem_cons_of_mem _ List.mem_cons_self) hmb
      simp only [List.length_cons, List.length_nil, Nat.zero_add, Nat.reduceAdd] at hcW HBW Hbox Ht ⊢
      rw [if_neg (by omega), if_neg (by omega), if_neg (by omega), textL_two] at htx
      rw [htx] at hl ⊢
      simp only [List.length_append] at hl
      clear htx hlen
      have hk7 : k = 8 ∨ k = 9 ∨ k = 10 ∨ k = 11 ∨ k = 12 ∨ k = 13 ∨ k = 14 := by omega
      clear hk
      rcases hk7 with rfl | rfl | rfl | rfl | rfl | rfl | rfl
      · rw [show opText 8 = [38, 38] from rfl, show leftK 8 = 3 from rfl, show rightK 8 = 4 from rfl] at hl ⊢
        simp only [List.length_cons, List.length_nil] at hl
        go_enter Try.func60, Try.ntmps60
        go_wp2_with fail
        generalize w.alloc (.cells #[.int .i64 8, .string ⟨#[]⟩, .slice ao 2 cap] 37) = W at *
        (with_reducible refine (len_any _ pb B l HBW.out).mono ?_)
        rintro e w1 ⟨rfl, rfl⟩
        obtain ⟨c0, c1, c2, _⟩ := cells_three Hbox.out
        have hs := sides_any (.node 8 [] [a, b]) a b rfl hpa hpb R W pb B l [32, 38, 38, 32] _ 3 4 (Ht.out.nob hcW) hR HBW.out (by simp only [List.length_cons, List.length_nil]; omega)
        go_wp2_with fail
        (with_reducible refine hs.mono ?_)
        clear hs
        rintro e w4 ⟨rfl, l4, hp4, hB4, hc4⟩
        have Hp := Lib.hid hp4
        have Hc := Lib.hid ((BdC.nob hcW).trans hc4)
        clear hp4 c0 c1 c2
        go_wp2
        go_end0
        exact ⟨rfl, _, Hp.out, hB4, Hc.out⟩
      · rw [show opText 9 = [124, 124] from rfl, show leftK 9 = 2 from rfl, show rightK 9 = 3 from rfl] at hl ⊢
        simp only [List.length_cons, List.length_nil] at hl
        go_enter Try.func60, Try.ntmps60
        go_wp2_with fail
        generalize w.alloc (.cells #[.int .i64 9, .string ⟨#[]⟩, .slice ao 2 cap] 37) = W at *
        (with_reducible refine (len_any _ pb B l HBW.out).mono ?_)
        rintro e w1 ⟨rfl, rfl⟩
        obtain ⟨c0, c1, c2, _⟩ := cells_three Hbox.out
        have hs := sides_any (.node 9 [] [a, b]) a b rfl hpa hpb R W pb B l [32, 124, 124, 32] _ 2 3 (Ht.out.nob hcW) hR HBW.out (by simp only [List.length_cons, List.length_nil]; omega)
        go_wp2_with fail
        (with_reducible refine hs.mono ?_)
        clear hs
        rintro e w4 ⟨rfl, l4, hp4, hB4, hc4⟩
        have Hp := Lib.hid hp4
        have Hc := Lib.hid ((BdC.nob hcW).trans hc4)
        clear hp4 c0 c1 c2
        go_wp2
        go_end0
        exact ⟨rfl, _, Hp.out, hB4, Hc.out⟩
      · rw [show opText 10 = [45, 62] from rfl, show leftK 10 = 2 from rfl, show rightK 10 = 1 from rfl] at hl ⊢
        simp only [List.length_cons, List.length_nil] at hl
        go_enter Try.func60, Try.ntmps60
        go_wp2_with fail
        generalize w.alloc (.cells #[.int .i64 10, .string ⟨#[]⟩, .slice ao 2 cap] 37) = W at *
        (with_reducible refine (len_any _ pb B l HBW.out).mono ?_)
        rintro e w1 ⟨rfl, rfl⟩
        obtain ⟨c0, c1, c2, _⟩ := cells_three Hbox.out
        have hs := sides_any (.node 10 [] [a, b]) a b rfl hpa hpb R W pb B l [32, 45, 62, 32] _ 2 1 (Ht.out.nob hcW) hR HBW.out (by simp only [List.length_cons, List.length_nil]; omega)
        go_wp2_with fail
        (with_reducible refine hs.mono ?_)
        clear hs
        rintro e w4 ⟨rfl, l4, hp4, hB4, hc4⟩
        have Hp := Lib.hid hp4
        have Hc := Lib.hid ((BdC.nob hcW).trans hc4)
        clear hp4 c0 c1 c2
        go_wp2
        go_end0
        exact ⟨rfl, _, Hp.out, hB4, Hc.out⟩
      · rw [show opText 11 = [60, 45, 62] from rfl, show leftK 11 = 1 from rfl, show rightK 11 = 0 from rfl] at hl ⊢
        simp only [List.length_cons, List.length_nil] at hl
        go_enter Try.func60, Try.ntmps60
        go_wp2_with fail
        generalize w.alloc (.cells #[.int .i64 11, .string ⟨#[]⟩, .slice ao 2 cap] 37) = W at *
        (with_reducible refine (len_any _ pb B l HBW.out).mono ?_)
        rintro e w1 ⟨rfl, rfl⟩
        obtain ⟨c0, c1, c2, _⟩ := cells_three Hbox.out
        have hs := sides_any (.node 11 [] [a, b]) a b rfl hpa hpb R W pb B l [32, 60, 45, 62, 32] _ 1 0 (Ht.out.nob hcW) hR HBW.out (by simp only [List.length_cons, List.length_nil]; omega)
        go_wp2_with fail
        (with_reducible refine hs.mono ?_)
        clear hs
        rintro e w4 ⟨rfl, l4, hp4, hB4, hc4⟩
        have Hp := Lib.hid hp4
        have Hc := Lib.hid ((BdC.nob hcW).trans hc4)
        clear hp4 c0 c1 c2
        go_wp2
        go_end0
        exact ⟨rfl, _, Hp.out, hB4, Hc.out⟩
      · rw [show opText 12 = [85] from rfl, show leftK 12 = 5 from rfl, show rightK 12 = 4 from rfl] at hl ⊢
        simp only [List.length_cons, List.length_nil] at hl
        go_enter Try.func60, Try.ntmps60
        go_wp2_with fail
        generalize w.alloc (.cells #[.int .i64 12, .string ⟨#[]⟩, .slice ao 2 cap] 37) = W at *
        (with_reducible refine (len_any _ pb B l HBW.out).mono ?_)
        rintro e w1 ⟨rfl, rfl⟩
        obtain ⟨c0, c1, c2, _⟩ := cells_three Hbox.out
        have hs := sides_any (.node 12 [] [a, b]) a b rfl hpa hpb R W pb B l [32, 85, 32] _ 5 4 (Ht.out.nob hcW) hR HBW.out (by simp only [List.length_cons, List.length_nil]; omega)
        go_wp2_with fail
        (with_reducible refine hs.mono ?_)
        clear hs
        rintro e w4 ⟨rfl, l4, hp4, hB4, hc4⟩
        have Hp := Lib.hid hp4
        have Hc := Lib.hid ((BdC.nob hcW).trans hc4)
        clear hp4 c0 c1 c2
        go_wp2
        go_end0
        exact ⟨rfl, _, Hp.out, hB4, Hc.out⟩
      · rw [show opText 13 = [86] from rfl, show leftK 13 = 5 from rfl, show rightK 13 = 4 from rfl] at hl ⊢
        simp only [List.length_cons, List.length_nil] at hl
        go_enter Try.func60, Try.ntmps60
        go_wp2_with fail
        generalize w.alloc (.cells #[.int .i64 13, .string ⟨#[]⟩, .slice ao 2 cap] 37) = W at *
        (with_reducible refine (len_any _ pb B l HBW.out).mono ?_)
        rintro e w1 ⟨rfl, rfl⟩
        obtain ⟨c0, c1, c2, _⟩ := cells_three Hbox.out
        have hs := sides_any (.node 13 [] [a, b]) a b rfl hpa hpb R W pb B l [32, 86, 32] _ 5 4 (Ht.out.nob hcW) hR HBW.out (by simp only [List.length_cons, List.length_nil]; omega)
        go_wp2_with fail
        (with_reducible refine hs.mono ?_)
        clear hs
        rintro e w4 ⟨rfl, l4, hp4, hB4, hc4⟩
        have Hp := Lib.hid hp4
        have Hc := Lib.hid ((BdC.nob hcW).trans hc4)
        clear hp4 c0 c1 c2
        go_wp2
        go_end0
        exact ⟨rfl, _, Hp.out, hB4, Hc.out⟩
      · rw [show opText 14 = [87] from rfl, show leftK 14 = 5 from rfl, show rightK 14 = 4 from rfl] at hl ⊢
        simp only [List.length_cons, List.length_nil] at hl
        go_enter Try.func60, Try.ntmps60
        go_wp2_with fail
        generalize w.alloc (.cells #[.int .i64 14, .string ⟨#[]⟩, .slice ao 2 cap] 37) = W at *
        (with_reducible refine (len_any _ pb B l HBW.out).mono ?_)
        rintro e w1 ⟨rfl, rfl⟩
        obtain ⟨c0, c1, c2, _⟩ := cells_three Hbox.out
        have hs := sides_any (.node 14 [] [a, b]) a b rfl hpa hpb R W pb B l [32, 87, 32] _ 5 4 (Ht.out.nob hcW) hR HBW.out (by simp only [List.length_cons, List.length_nil]; omega)
        go_wp2_with fail
        (with_reducible refine hs.mono ?_)
        clear hs
        rintro e w4 ⟨rfl, l4, hp4, hB4, hc4⟩
        have Hp := Lib.hid hp4
        have Hc := Lib.hid ((BdC.nob hcW).trans hc4)
        clear hp4 c0 c1 c2
        go_wp2
        go_end0
        exact ⟨rfl, _, Hp.out, hB4, Hc.out⟩
end Go.Proofs.Ytkgfdgfhpdhhaaa
