/- The contract of codec Buffer Line. Conditions: as each theorem states. -/
import Derived.Test.YtickdmalkmgkiaaBufThree
namespace Go.Proofs.Ytickdmalkmgkiaa
open Go.RowKit

theorem setCells_chg (b : Nat) : ∀ (vs : List Value) (o : Nat) (w : World), Chg (fun k => k = b) w (w.setCells b o vs)
  | [], _, w => Chg.refl _ w
  | v :: vs, o, w => ((Chg.refl (fun k => k = b) w).setCell (p := ⟨b, o, none⟩) (fun _ => rfl) v).trans1 (setCells_chg b vs (o + 1) (w.setCell ⟨b, o, none⟩ v))

/-- 'append([]byte(s), 10)'. -/
theorem wpList_append_feed {ops : Array Oper} {rest : List Oper} {o : Oper} {a : Act} {Q : Exit → Act → World → Prop} (s : ByteArray) (w : World)
    (hg : o.guard = none) (x y : Operand) (hop : o.op = Op.call { callee := Callee.builtin Builtin.append, args := #[x, y], argTypes := #[26, 26] })
    (hx : a.eval x = .slice (some ⟨w.heap.size, 0, none⟩) s.size (convC s w)) (hy : a.eval y = .slice (some ⟨w.heap.size + 1, 0, none⟩) 1 1) (hs : s.size ≤ 100000000)
    (hK : ∀ v' w', isSrc w' v' (s.data.toList ++ [10]) → Chg Nob w w' → wpList Try.prog ops Q rest (a.put o.dst v') w') :
    wpList Try.prog ops Q (o :: rest) a ((convW s w).alloc (.cells #[.int .u8 10] 5)) := by
  obtain ⟨i0, hi, hz0, hz1, hz2⟩ := info_parts Try.info5
  have hlen : s.data.toList.length = s.size := by rw [Array.length_toList]; rfl
  have hw2 : Chg Nob w ((convW s w).alloc (.cells #[.int .u8 10] 5)) := (convW_chg s w).alloc _
  have hcell : ∀ j u, (s.data.toList.map bv)[j]? = some u → ((convW s w).alloc (.cells #[.int .u8 10] 5)).cell? ⟨w.heap.size, j, none⟩ = some u := by
    intro j u hu
    have h1 := convW_cell s w j u hu
    have h2 := ((Chg.refl Nob (convW s w)).alloc (.cells #[.int .u8 10] 5)).cell' h1 (fun e => e)
    exact h2
  have hnew := news_one (convW s w) (.int .u8 10) 5
  rw [convW_size] at hnew
  refine wpList_append_arg _ hg x y 26 hop 5 i0 (.int .u8 0) 1 1 Try.underlying26 hi hz0 hz1 hz2 rfl (by decide) w.heap.size 0 s.size (convC s w) (s.data.toList.map bv) hx (by simp [hlen]) ?c1 ⟨w.heap.size + 1, 0, none⟩ 1 1 [.int .u8 10] hy rfl hnew ?c2 ?c3 ?c4 ?c5 ?c6 ?c7
  case c1 => intro j u hu; rw [Nat.zero_add]; exact hcell j u hu
  case c2 => intro u hu; simp at hu; subst hu; rfl
  case c3 =>
    intro hroom j hj
    have hj0 : j = 0 := by simp at hj; exact hj
    subst hj0
    have h1 := convW_spare s w (0 + s.size * 1 + 0) (by omega)
    have hlt : w.heap.size < (convW s w).heap.size := by rw [convW_size]; omega
    have hb := ((Chg.refl Nob (convW s w)).alloc (.cells #[.int .u8 10] 5)).block w.heap.size hlt (fun e => e)
    rw [World.cell?_of_block (w := convW s w) hb, World.frozen?_of_block (w := convW s w) hb]
    exact h1
  case c4 => unfold maxLen; omega
  case c5 => omega
  case c6 =>
    intro hroom
    refine hK _ _ ⟨w.heap.size, 0, convC s w, by rw [List.length_append, hlen]; rfl, ?_⟩ ?_
    · intro j u hu
      have e0 : 0 + j = j := Nat.zero_add j
      have e1 : 0 + s.size * 1 = s.size := by omega
      rw [e0, e1]
      by_cases hj : j < s.size
      · rw [World.cell?_setCells_out _ _ _ _ _ (fun _ _ => Or.inl hj)]
        refine hcell j u ?_
        rw [List.map_append, List.getElem?_append_left (by simp [hlen, hj])] at hu
        exact hu
      · have hjs : j = s.size := by
          have := (List.getElem?_eq_some_iff.1 hu).1
          simp [hlen] at this; omega
        subst hjs
        rw [List.map_append, List.getElem?_append_right (by simp [hlen])] at hu
        simp [hlen, bv] at hu
        subst hu
        have h1 := convW_spare s w s.size (by omega)
        have hlt : w.heap.size < (convW s w).heap.size := by rw [convW_size]; omega
        have hb := ((Chg.refl Nob (convW s w)).alloc (.cells #[.int .u8 10] 5)).block w.heap.size hlt (fun e => e)
        have h2 := World.cell?_setCells_in w.heap.size [.int .u8 10] s.size ((convW s w).alloc (.cells #[.int .u8 10] 5)) (by
          intro j hj
          have hj0 : j = 0 := by simp at hj; exact hj
          subst hj0
          rw [Nat.add_zero, World.cell?_of_block (w := convW s w) hb]
          exact h1.1) 0 (by simp)
        exact h2
    · exact hw2.trans (setCells_chg _ _ _ _) (fun i hi e => by omega)
  case c7 =>
    intro hfull v' w' hown hgrow
    refine hK _ _ (isSrc_of_owns (B := ((convW s w).alloc (.cells #[.int .u8 10] 5)).heap.size) ?_ (by simp)) (hw2.grown hgrow (fun k hk => by cases hk))
    rw [List.length_append, hlen, List.map_append]
    exact hown

set_option maxRecDepth 100000 in
set_option maxHeartbeats 400000 in
theorem line_any (B b : Nat) (l : List UInt8) (room : Nat) (s : ByteArray) (w : World) (h10 : ¬ (10 : UInt8) ∈ s.data.toList) (hB : B ≤ w.heap.size) (hbuf : isBuf w B b l room) :
    Calls Try.prog 32 #[.pointer (some ⟨b, 0, none⟩), .string s] w (PutPost B b l (s.data.toList ++ [10]) room w) := by
  have hi : Lib.indexByte s.data.toList 10 < 0 := by have := mt (idx_mem _).1 h10; omega
  clear h10
  have Hbuf := Lib.hid hbuf
  obtain ⟨hl, hr, u, hb, hown⟩ := hbuf
  obtain ⟨ao, cu, rfl⟩ := ownsRow_shape hown
  obtain ⟨c0, c1, f0, f1⟩ := cell_two hb
  clear hb
  have Hlen : Hid (s.data.toList.length = s.size) := by rw [Array.length_toList]; rfl
  have hconv := run_conv s
  have hcs := convW_size s
  by_cases hroom : room < s.size
  · go_enter Try.func32, Try.ntmps32
    go_wp2_with fail
    with_reducible refine (idx_any _ _).mono ?_
    rintro e w1 ⟨rfl, rfl⟩
    go_wp2_with fail
    go_ret
    exact Or.inr ⟨by rw [List.length_append, Hlen.out]; omega, rfl, Chg.refl _ _, Hbuf.out⟩
  · go_enter Try.func32, Try.ntmps32
    go_wp2_with fail
    with_reducible refine (idx_any _ _).mono ?_
    rintro e w1 ⟨rfl, rfl⟩
    go_wp2_with (refine wpList_append_feed s w rfl _ _ rfl rfl rfl (by omega) ?_)
    intro v' w2 hsrc hchg
    go_wp2_with fail
    with_reducible refine (put_any B b l (s.data.toList ++ [10]) room v' w2 (Nat.le_trans hB hchg.size) (Hbuf.out.nob hchg) hsrc ?d3).mono ?_
    case d3 => rw [List.length_append, Hlen.out]; simp; omega
    rintro e w3 hp
    have Hp := Lib.hid hp
    rcases hp with ⟨_, rfl, _⟩ | ⟨_, rfl, _⟩
    · go_wp2
      go_ret
      exact PutPost.of_chg hchg Hp.out
    · go_wp2
      go_ret
      exact PutPost.of_chg hchg Hp.out
end Go.Proofs.Ytickdmalkmgkiaa
