/- The depth of a formula, by the program. Condition: the tree lies in the world; it is not too great. -/
import Derived.Test.YtkgfdgfhpdhhaaaIs
import Derived.Test.YtkgfdgfhpdhhaaaCore
import Derived.Deep.LoopGhost
namespace Go.Proofs.Ytkgfdgfhpdhhaaa
open Go.ChangeShapes Go.WideShapes Go.RowKit

theorem Try.info125 : (Try.prog.info? 125).map (fun i => (i.zero, i.size, i.bytes)) = some (some (.agg #[.int .i64 0, .string ⟨#[]⟩, .slice none 0 0, .int .i64 0]), 4, 56) := by kernel_rfl
theorem info125_parts : ∃ i, Try.prog.info? 125 = some i ∧ i.zero = some (.agg #[.int .i64 0, .string ⟨#[]⟩, .slice none 0 0, .int .i64 0]) ∧ i.size = 4 ∧ i.bytes = 56 := by
  have h := Try.info125
  cases hi : Try.prog.info? 125 with
  | none => rw [hi] at h; simp at h
  | some i => rw [hi] at h; simp at h; exact ⟨i, rfl, h.1, h.2.1, h.2.2⟩
/-- A formula that stands so deep, behind a row of such. -/
theorem append125 {B : Nat} {w : World} {v : Value} {n : Nat} {xs : List Value} {g : Nat} {k d : Int} {s : ByteArray} {ao : Option Addr} {l c : Nat} (h : w.ownsRow B 125 4 v n xs) (hB : B ≤ w.heap.size) (hn : n ≤ 100000000) (hg : w.heap[g]? = some (.cells #[.int .i64 k, .string s, .slice ao l c, .int .i64 d] 125 (0, 0))) :
    ∃ g' cap w', (Builtin.append_ #[126, 126] 126 #[v, .slice (some ⟨g, 0, none⟩) 1 1]).run Try.prog w = .ok (.slice (some ⟨g', 0, none⟩) (n + 1) cap) w' ∧ w'.ownsRow B 125 4 (.slice (some ⟨g', 0, none⟩) (n + 1) cap) (n + 1) (xs ++ [.int .i64 k, .string s, .slice ao l c, .int .i64 d]) ∧ w.grownBy w' v.ownBlock ∧ (v.ownBlock = some g' ∨ g' = w.heap.size) ∧ g' < w'.heap.size := by
  obtain ⟨i, hi, hz, hs, hb⟩ := info125_parts
  exact run_append_lies (P := Try.prog) w 126 126 B 125 i _ 4 56 Try.underlying126 hi hz hs hb rfl (by decide) v n _ h ⟨g, 0, none⟩ 1 1 [.int .i64 k, .string s, .slice ao l c, .int .i64 d] rfl
    (fun j u hj => by rw [Go.WideShapes.add_plain, Nat.zero_add]; exact cell_row hg j (by simpa using hj)) (by intro u hu; simp at hu; rcases hu with rfl | rfl | rfl | rfl <;> rfl) (by decide) (by unfold maxLen; omega) (by omega) hB _ rfl

/-- A formula of the row: where its kids lie, how deep it stands. -/
structure El where
  t : T
  ao : Option Addr
  cap : Nat
  deep : Nat
def El.v (x : El) : Value := .agg #[.int .i64 x.t.kind, .string ⟨x.t.name.toArray⟩, .slice x.ao x.t.kids.length x.cap]
def El.cells (x : El) : List Value := [.int .i64 x.t.kind, .string ⟨x.t.name.toArray⟩, .slice x.ao x.t.kids.length x.cap, .int .i64 (x.deep : Int)]
def elCells (l : List El) : List Value := l.flatMap El.cells
theorem elCells_length : ∀ l : List El, (elCells l).length = l.length * 4
  | [] => rfl
  | x :: l => by
    have := elCells_length l
    unfold elCells at this ⊢
    rw [List.flatMap_cons, List.length_append, this, List.length_cons]
    show 4 + l.length * 4 = _
    omega
theorem elCells_snoc (l : List El) (x : El) : elCells (l ++ [x]) = elCells l ++ x.cells := by
  unfold elCells
  rw [List.flatMap_append]; rfl
theorem elCells_at (l : List El) (x : El) {j : Nat} {u : Value} (h : x.cells[j]? = some u) : (elCells (l ++ [x]))[l.length * 4 + j]? = some u := by
  rw [elCells_snoc, List.getElem?_append_right (by rw [elCells_length]; omega), elCells_length, Nat.add_sub_cancel_left]
  exact h
theorem elCells_cut (l : List El) (x : El) : (elCells (l ++ [x])).take (l.length * 4) = elCells l := by
  rw [elCells_snoc, List.take_append_of_le_length (by rw [elCells_length]; omega), List.take_of_length_le (by rw [elCells_length]; omega)]
/-- The greatest depth that a row comes to. -/
def deepL : List El → Nat
  | [] => 0
  | x :: l => max (x.deep - 1 + depthT x.t) (deepL l)
theorem deepL_append : ∀ l m : List El, deepL (l ++ m) = max (deepL l) (deepL m)
  | [], m => by rw [List.nil_append, deepL]; omega
  | x :: l, m => by rw [List.cons_append, deepL, deepL, deepL_append l m]; omega
def massL : List El → Nat
  | [] => 0
  | x :: l => sizeT x.t + massL l
theorem massL_append : ∀ l m : List El, massL (l ++ m) = massL l + massL m
  | [], m => by rw [List.nil_append, massL]; omega
  | x :: l, m => by rw [List.cons_append, massL, massL, massL_append l m]; omega
theorem massL_le : ∀ l : List El, l.length ≤ massL l
  | [] => Nat.le_refl _
  | x :: l => by have := massL_le l; have := sizeT_pos x.t; rw [List.length_cons, massL]; omega

theorem sizeL_len : ∀ l : List T, l.length ≤ sizeL l
  | [] => Nat.le_refl _
  | t :: l => by have := sizeL_len l; have := sizeT_pos t; rw [List.length_cons, sizeL]; omega
theorem ownsRow_lt_b {w : World} {B : Nat} {e : TypeId} {z g n cap : Nat} {xs : List Value} (h : w.ownsRow B e z (.slice (some ⟨g, 0, none⟩) n cap) n xs) : g < w.heap.size := (h.lt g rfl).2
theorem deepL_kids : ∀ (ks : List El) (d : Nat), (∀ e ∈ ks, e.deep = d + 1) → d ≤ d + depthL (ks.map (·.t)) ∧ max d (deepL ks) = d + depthL (ks.map (·.t))
  | [], d, _ => by rw [List.map_nil, depthL, deepL]; omega
  | e :: ks, d, h => by
    have ih := (deepL_kids ks d (fun e he => h e (List.mem_cons_of_mem _ he))).2
    have he := h e List.mem_cons_self
    rw [List.map_cons, depthL, deepL, he]
    omega
theorem massL_kids : ∀ (ks : List El), massL ks = sizeL (ks.map (·.t))
  | [] => by rw [List.map_nil, sizeL, massL]
  | e :: ks => by rw [List.map_cons, sizeL, massL, massL_kids ks]
structure DpOk (R : Nat → Prop) (w : World) (t0 : T) (m : Nat) (st : List El) (v : Value) (wr : World) : Prop where
  c : Chg Nob w wr
  row : wr.ownsRow w.heap.size 125 4 v st.length (elCells st)
  trees : ∀ x ∈ st, IsTree R w x.t x.v ∧ 1 ≤ x.deep ∧ x.deep + massL st ≤ sizeT t0 + 1
  max : depthT t0 = max m (deepL st)
  mm : m ≤ sizeT t0
structure DpIn (R : Nat → Prop) (w : World) (st0 ks : List El) (x : El) (xb : Nat) (v : Value) (wr : World) : Prop where
  c : Chg Nob w wr
  row : wr.ownsRow w.heap.size 125 4 v (st0.length + ks.length) (elCells (st0 ++ ks))
  xblk : wr.heap[xb]? = some (.cells x.cells.toArray 125 (0, 0))
  xl : w.heap.size ≤ xb
  ne : ∀ k, v.ownBlock = some k → k ≠ xb
  pre : ks.map (·.t) = x.t.kids.take ks.length
  trees : ∀ e ∈ ks, IsTree R w e.t e.v ∧ e.deep = x.deep + 1
  kl : ks.length ≤ x.t.kids.length

theorem DpIn.push {R : Nat → Prop} {w : World} {st0 ks : List El} {x : El} {xb : Nat} {v : Value} {wr wA w6 : World} {u : T} {ak : Option Addr} {capk g' cap' : Nat} (h : DpIn R w st0 ks x xb v wr) (hu : x.t.kids[ks.length]? = some u)
    (htree : IsTree R w u (.agg #[.int .i64 u.kind, .string ⟨u.name.toArray⟩, .slice ak u.kids.length capk])) (hA : Chg Nob wr wA)
    (hrow6 : w6.ownsRow w.heap.size 125 4 (.slice (some ⟨g', 0, none⟩) (st0.length + ks.length + 1) cap') (st0.length + ks.length + 1) (elCells (st0 ++ ks) ++ [.int .i64 u.kind, .string ⟨u.name.toArray⟩, .slice ak u.kids.length capk, .int .i64 ((x.deep + 1 : Nat) : Int)])) (hgr : wA.grownBy w6 v.ownBlock)
    (hg : v.ownBlock = some g' ∨ g' = wA.heap.size) : DpIn R w st0 (ks ++ [⟨u, ak, capk, x.deep + 1⟩]) x xb (.slice (some ⟨g', 0, none⟩) (st0.length + ks.length + 1) cap') w6 := by
  have hxb := hA.at h.xblk (fun e => e)
  have hlt := (Array.getElem?_eq_some_iff.1 hxb).1
  refine ⟨grown_chg (h.c.trans1 hA) (ownsRow_chg h.row hA (fun _ _ e => e)) (Nat.le_refl _) hgr, ?_, ?_, h.xl, ?_, ?_, ?_, ?_⟩
  · rw [List.length_append, ← List.append_assoc, elCells_snoc]
    exact hrow6
  · exact (Chg.grown (S := fun k => v.ownBlock = some k) (Chg.refl _ wA) hgr (fun k hk _ => hk)).at hxb (fun e => h.ne _ e rfl)
  · intro k hk e
    have hk2 : g' = k := by simpa [Value.ownBlock] using hk
    rcases hg with hg | hg
    · exact h.ne _ hg (hk2.trans e)
    · omega
  · rw [List.map_append, List.length_append, h.pre, List.map_cons, List.map_nil, List.length_cons, List.length_nil, Nat.zero_add, List.take_add_one, hu]
    rfl
  · intro e he
    rcases List.mem_append.1 he with he | he
    · exact h.trees e he
    · obtain rfl : e = ⟨u, ak, capk, x.deep + 1⟩ := by simpa using he
      exact ⟨htree, rfl⟩
  · have := (List.getElem?_eq_some_iff.1 hu).1
    rw [List.length_append]
    exact this
theorem DpIn.done {R : Nat → Prop} {w : World} {t0 : T} {m : Nat} {st0 ks : List El} {x : El} {xb : Nat} {v v0 : Value} {wr wr0 : World} (h : DpIn R w st0 ks x xb v wr) (h0 : DpOk R w t0 m (st0 ++ [x]) v0 wr0) (hl : ks.length = x.t.kids.length) :
    DpOk R w t0 (max m x.deep) (st0 ++ ks) v wr ∧ massL (st0 ++ ks) < massL (st0 ++ [x]) := by
  obtain ⟨hx1, hx2, hx3⟩ := h0.trees x (by simp)
  have hmax := h0.max
  have hp := h.pre
  rw [hl, List.take_length] at hp
  have hd := deepL_kids ks x.deep (fun e he => (h.trees e he).2)
  have hm := massL_kids ks
  rw [hp] at hd hm
  have hdx := depthT_eq x.t
  have hsx := sizeT_eq x.t
  rw [deepL_append] at hmax
  simp only [deepL] at hmax
  have hlt : massL (st0 ++ ks) < massL (st0 ++ [x]) := by
    rw [massL_append, massL_append]
    simp only [massL]
    omega
  refine ⟨⟨h.c, by rw [List.length_append]; exact h.row, fun e he => ?_, by rw [deepL_append]; omega, ?_⟩, hlt⟩
  · rcases List.mem_append.1 he with he | he
    · obtain ⟨e1, e2, e3⟩ := h0.trees e (List.mem_append_left _ he)
      exact ⟨e1, e2, by omega⟩
    · obtain ⟨e1, e2⟩ := h.trees e he
      exact ⟨e1, by omega, by omega⟩
  · have h1 := h0.mm
    have h2 := massL_le (st0 ++ [x])
    rw [List.length_append, List.length_cons] at h2
    omega

set_option maxRecDepth 100000 in
set_option maxHeartbeats 4000000 in
theorem pdepth_any (R : Nat → Prop) (t : T) (v : Value) (w : World) (ht : IsTree R w t v) (hN : sizeT t ≤ 1000000) :
    Calls Try.prog 54 #[v] w fun e w' => e = .returned (.int .i64 (depthT t)) ∧ Chg Nob w w' := by
  obtain ⟨ao, cap, rfl, hlen, hk⟩ := ht.parts
  have Ht := Lib.hid ht
  clear ht hk
  go_enter Try.func54, Try.ntmps54
  go_wp2_with fail
  have h0 : Hid (∃ W, W = (w.alloc (.cells #[.int .i64 t.kind, .string ⟨t.name.toArray⟩, .slice ao t.kids.length cap] 37)).alloc (.cells #[.int .i64 t.kind, .string ⟨t.name.toArray⟩, .slice ao t.kids.length cap, .int .i64 1] 125) ∧
      DpOk R w t 0 [⟨t, ao, cap, 1⟩] (.slice (some ⟨w.heap.size + 1, 0, none⟩) 1 1) W) := by
    refine ⟨_, rfl, ((Chg.refl _ _).alloc _).alloc _, ⟨rfl, .inr ⟨w.heap.size + 1, 1, #[.int .i64 t.kind, .string ⟨t.name.toArray⟩, .slice ao t.kids.length cap, .int .i64 1], rfl, by omega, ?_, Nat.le_refl _, by decide, rfl, rfl⟩⟩, ?_, ?_, by omega⟩
    · have := heap_alloc_new (w.alloc (.cells #[.int .i64 t.kind, .string ⟨t.name.toArray⟩, .slice ao t.kids.length cap] 37)) (.cells #[.int .i64 t.kind, .string ⟨t.name.toArray⟩, .slice ao t.kids.length cap, .int .i64 1] 125)
      rwa [World.size_alloc] at this
    · intro x hx
      obtain rfl : x = ⟨t, ao, cap, 1⟩ := by simpa using hx
      exact ⟨Ht.out, Nat.le_refl _, by simp only [massL]; omega⟩
    · rw [deepL, deepL]
      show _ = max 0 (max (1 - 1 + depthT t) 0)
      omega
  obtain ⟨W, hW, hok⟩ := h0.out
  rw [← hW]
  have Hok := Lib.hid hok
  clear hW h0 hok
  go_loopg [3, 4] (sizeT t) (fun k s3 s4 wr => ∃ (m : Nat) (st : List El), s3 = .int .i64 m ∧ massL st ≤ k ∧ Hid (DpOk R w t m st s4 wr))
  case atStart => exact ⟨0, _, rfl, by rw [massL, massL]; exact Nat.le_refl _, Hok⟩
  case round =>
    clear Hok
    obtain ⟨m, st, rfl, hgk, HD⟩ := hrel
    obtain ⟨aor, capr, rfl⟩ := ownsRow_shape HD.out.row
    rcases List.eq_nil_or_concat st with rfl | ⟨st0, x, rfl⟩
    · have hm := HD.out.max
      rw [deepL] at hm
      have Hm := Lib.hid hm
      clear hm
      simp only [List.length_nil]
      go_wp2
      go_ret
      exact ⟨by rw [Hm.out, Nat.max_zero]; rfl, HD.out.c⟩
    · rw [List.concat_eq_append] at HD hgk ⊢
      have hrow := HD.out.row
      rw [List.length_append, List.length_cons, List.length_nil, Nat.zero_add] at hrow ⊢
      obtain ⟨N, hN0⟩ : ∃ N, N = st0.length := ⟨_, rfl⟩
      rw [← hN0] at hrow ⊢
      obtain ⟨g, capg, hsv, _⟩ := ownsRow_some hrow (by omega)
      cases hsv
      have q0 := ownsRow_at hrow (elCells_at st0 x (j := 0) rfl)
      have q1 := ownsRow_at hrow (elCells_at st0 x (j := 1) rfl)
      have q2 := ownsRow_at hrow (elCells_at st0 x (j := 2) rfl)
      have q3 := ownsRow_at hrow (elCells_at st0 x (j := 3) rfl)
      rw [← hN0] at q0 q1 q2 q3
      rw [Nat.add_zero] at q0
      have hcg := ownsRow_cap hrow
      obtain ⟨hxt, hd1, hdm⟩ := HD.out.trees x (by simp)
      have hms := massL_le (st0 ++ [x])
      rw [List.length_append, List.length_cons, List.length_nil, Nat.zero_add] at hms
      have hNb : N ≤ 1000000 := by omega
      have hdb : x.deep ≤ 1000000 := by omega
      have hmm := HD.out.mm
      have hn0 : (0 : Int) < (N : Int) + 1 := by omega
      have hn1 : (0 : Int) ≤ (N : Int) := by omega
      have hn2 : (N : Int) < (N : Int) + 1 := by omega
      have hn3 : (N : Int) ≤ (capr : Int) := by omega
      have hgw := ownsRow_lt_b hrow
      obtain ⟨aok, capk, ev, hkl, hk⟩ := hxt.parts
      have hev : aok = x.ao ∧ capk = x.cap := by unfold El.v at ev; simp at ev; exact ⟨ev.1.symm, ev.2.symm⟩
      obtain ⟨rfl, rfl⟩ := hev
      have Hk := Lib.hid hk
      have HN0 := Lib.hid hN0
      have hIn : Hid (DpIn R w st0 [] x wr.heap.size (.slice (some ⟨g, 0, none⟩) N capr) (wr.alloc (.cells #[.int .i64 x.t.kind, .string ⟨x.t.name.toArray⟩, .slice x.ao x.t.kids.length x.cap, .int .i64 (x.deep : Int)] 125))) := by
        have hcut := ownsRow_cut hrow (m := N) (by omega)
        rw [hN0, elCells_cut, ← hN0] at hcut
        refine ⟨HD.out.c.alloc _, ?_, heap_alloc_new wr _, HD.out.c.size, ?_, rfl, (fun e he => by cases he), Nat.zero_le _⟩
        · rw [List.length_nil, Nat.add_zero, ← hN0, List.append_nil]
          exact ownsRow_chg hcut ((Chg.refl Nob wr).alloc _) (fun _ _ e => e)
        · intro k hk2
          have : g = k := by simpa [Value.ownBlock] using hk2
          omega
      have Hkb : Hid (x.t.kids.length ≤ 1000000) := (show _ ≤ _ by have h1 := massL_append st0 [x]; simp only [massL] at h1; have h2 := sizeT_eq x.t; have h3 := sizeL_len x.t.kids; omega)
      clear hrow hxt hN0 hk ev
      by_cases hmd : m < x.deep
      · have hmdi : (m : Int) < (x.deep : Int) := by omega
        go_wp2_with fail
        have HDone : Hid (∀ (ks : List El) (v' : Value) (wr' : World), DpIn R w st0 ks x wr.heap.size v' wr' → ks.length = x.t.kids.length → DpOk R w t x.deep (st0 ++ ks) v' wr' ∧ massL (st0 ++ ks) < massL (st0 ++ [x])) := fun ks v' wr' h1 h2 => by
          have := h1.done HD.out h2
          rwa [show max m x.deep = x.deep by omega] at this
        have hxl : (x.deep : Int) ≤ 1000000 := by omega
        generalize wr.heap.size = xb at *
        clear HD
        obtain ⟨a0, ha0⟩ : ∃ a0, a0 = x.ao := ⟨_, rfl⟩
        rw [← ha0] at Hk hIn ⊢
        have Ha0 := Lib.hid ha0
        clear ha0
        go_loopg [4, 33] x.t.kids.length (fun k s4 s33 wr' => ∃ ks : List El, s33 = .int .i64 ks.length ∧ k + ks.length = x.t.kids.length ∧ Hid (DpIn R w st0 ks x xb s4 wr'))
        case atStart => exact ⟨[], rfl, rfl, hIn⟩
        case round =>
          clear hIn q0 q1 q2 q3
          obtain ⟨ks, rfl, hgk2, HI⟩ := hrel
          obtain ⟨aor2, capr2, rfl⟩ := ownsRow_shape HI.out.row
          rcases Nat.lt_or_ge ks.length x.t.kids.length with hlt | hge
          · obtain ⟨u, hu⟩ : ∃ u, x.t.kids[ks.length]? = some u := ⟨_, List.getElem?_eq_getElem hlt⟩
            obtain ⟨b, o, ak, capk, hao, hRb, p0, p1, p2, hl2, hk2, htree⟩ := Hk.out.kid hu
            have p0' := HI.out.c.cell' p0 (fun e => e)
            have p1' := HI.out.c.cell' p1 (fun e => e)
            have p2' := HI.out.c.cell' p2 (fun e => e)
            have xd := cell_row HI.out.xblk 3 (v := .int .i64 (x.deep : Int)) rfl
            have xd2 := ((Chg.refl Nob wr).alloc (.cells #[.int .i64 u.kind, .string ⟨u.name.toArray⟩, .slice ak u.kids.length capk] 37)).cell' xd (fun e => e)
            have hxbl : xb < wr.heap.size := (Array.getElem?_eq_some_iff.1 HI.out.xblk).1
            have hki : (ks.length : Int) < (x.t.kids.length : Int) := by omega
            have hk0 : (0 : Int) ≤ (ks.length : Int) := by omega
            have hA : Chg Nob wr ((wr.alloc (.cells #[.int .i64 u.kind, .string ⟨u.name.toArray⟩, .slice ak u.kids.length capk] 37)).alloc (.cells #[.int .i64 u.kind, .string ⟨u.name.toArray⟩, .slice ak u.kids.length capk, .int .i64 ((x.deep : Int) + 1)] 125)) := ((Chg.refl _ _).alloc _).alloc _
            have hnew := heap_alloc_new (wr.alloc (.cells #[.int .i64 u.kind, .string ⟨u.name.toArray⟩, .slice ak u.kids.length capk] 37)) (.cells #[.int .i64 u.kind, .string ⟨u.name.toArray⟩, .slice ak u.kids.length capk, .int .i64 ((x.deep : Int) + 1)] 125)
            rw [World.size_alloc] at hnew
            have hb9 : st0.length + ks.length ≤ 100000000 := by have := HN0.out; have := Hkb.out; omega
            obtain ⟨g', cap6, w6, hrun, hrow6, hgr, hg6, _⟩ := append125 (ownsRow_chg HI.out.row hA (fun _ _ e => e)) (by have := (HI.out.c.trans1 hA).size; exact this) hb9 hnew
            have HI2 := Lib.hid (HI.out.push hu htree hA hrow6 hgr hg6)
            have Hrun := Lib.hid hrun
            have Hlen : Hid ((ks ++ [(⟨u, ak, capk, x.deep + 1⟩ : El)]).length = ks.length + 1) := (show _ = _ by simp)
            clear hrun hrow6 hgr hg6 hnew hA p0 p1 p2 hk2 htree hu
            subst hao
            go_wp2_with (refine wpList_append_known rfl _ _ 126 126 rfl _ _ rfl rfl _ w6 Hrun.out ?_)
            go_roundg (gk - 1)
            case measure => omega
            case rel => exact ⟨ks ++ [⟨u, ak, capk, x.deep + 1⟩], by rw [Hlen.out]; go_num, by rw [Hlen.out]; omega, HI2⟩
          · have hkl2 : ks.length = x.t.kids.length := by have := HI.out.kl; omega
            have Hd := Lib.hid (HDone.out ks _ _ HI.out hkl2)
            have hkle : ¬ (ks.length : Int) < (x.t.kids.length : Int) := by omega
            have hml := Hd.out.2
            have Hkl2 := Lib.hid hkl2
            clear hkl2
            go_wp2
            go_roundg (massL (st0 ++ ks))
            case measure => omega
            case rel => exact ⟨_, _, rfl, Nat.le_refl _, Hd.out.1⟩
      · have hmdi : ¬ (m : Int) < (x.deep : Int) := by omega
        go_wp2_with fail
        have HDone : Hid (∀ (ks : List El) (v' : Value) (wr' : World), DpIn R w st0 ks x wr.heap.size v' wr' → ks.length = x.t.kids.length → DpOk R w t m (st0 ++ ks) v' wr' ∧ massL (st0 ++ ks) < massL (st0 ++ [x])) := fun ks v' wr' h1 h2 => by
          have := h1.done HD.out h2
          rwa [show max m x.deep = m by omega] at this
        have hxl : (x.deep : Int) ≤ 1000000 := by omega
        generalize wr.heap.size = xb at *
        clear HD
        obtain ⟨a0, ha0⟩ : ∃ a0, a0 = x.ao := ⟨_, rfl⟩
        rw [← ha0] at Hk hIn ⊢
        have Ha0 := Lib.hid ha0
        clear ha0
        go_loopg [4, 33] x.t.kids.length (fun k s4 s33 wr' => ∃ ks : List El, s33 = .int .i64 ks.length ∧ k + ks.length = x.t.kids.length ∧ Hid (DpIn R w st0 ks x xb s4 wr'))
        case atStart => exact ⟨[], rfl, rfl, hIn⟩
        case round =>
          clear hIn q0 q1 q2 q3
          obtain ⟨ks, rfl, hgk2, HI⟩ := hrel
          obtain ⟨aor2, capr2, rfl⟩ := ownsRow_shape HI.out.row
          rcases Nat.lt_or_ge ks.length x.t.kids.length with hlt | hge
          · obtain ⟨u, hu⟩ : ∃ u, x.t.kids[ks.length]? = some u := ⟨_, List.getElem?_eq_getElem hlt⟩
            obtain ⟨b, o, ak, capk, hao, hRb, p0, p1, p2, hl2, hk2, htree⟩ := Hk.out.kid hu
            have p0' := HI.out.c.cell' p0 (fun e => e)
            have p1' := HI.out.c.cell' p1 (fun e => e)
            have p2' := HI.out.c.cell' p2 (fun e => e)
            have xd := cell_row HI.out.xblk 3 (v := .int .i64 (x.deep : Int)) rfl
            have xd2 := ((Chg.refl Nob wr).alloc (.cells #[.int .i64 u.kind, .string ⟨u.name.toArray⟩, .slice ak u.kids.length capk] 37)).cell' xd (fun e => e)
            have hxbl : xb < wr.heap.size := (Array.getElem?_eq_some_iff.1 HI.out.xblk).1
            have hki : (ks.length : Int) < (x.t.kids.length : Int) := by omega
            have hk0 : (0 : Int) ≤ (ks.length : Int) := by omega
            have hA : Chg Nob wr ((wr.alloc (.cells #[.int .i64 u.kind, .string ⟨u.name.toArray⟩, .slice ak u.kids.length capk] 37)).alloc (.cells #[.int .i64 u.kind, .string ⟨u.name.toArray⟩, .slice ak u.kids.length capk, .int .i64 ((x.deep : Int) + 1)] 125)) := ((Chg.refl _ _).alloc _).alloc _
            have hnew := heap_alloc_new (wr.alloc (.cells #[.int .i64 u.kind, .string ⟨u.name.toArray⟩, .slice ak u.kids.length capk] 37)) (.cells #[.int .i64 u.kind, .string ⟨u.name.toArray⟩, .slice ak u.kids.length capk, .int .i64 ((x.deep : Int) + 1)] 125)
            rw [World.size_alloc] at hnew
            have hb9 : st0.length + ks.length ≤ 100000000 := by have := HN0.out; have := Hkb.out; omega
            obtain ⟨g', cap6, w6, hrun, hrow6, hgr, hg6, _⟩ := append125 (ownsRow_chg HI.out.row hA (fun _ _ e => e)) (by have := (HI.out.c.trans1 hA).size; exact this) hb9 hnew
            have HI2 := Lib.hid (HI.out.push hu htree hA hrow6 hgr hg6)
            have Hrun := Lib.hid hrun
            have Hlen : Hid ((ks ++ [(⟨u, ak, capk, x.deep + 1⟩ : El)]).length = ks.length + 1) := (show _ = _ by simp)
            clear hrun hrow6 hgr hg6 hnew hA p0 p1 p2 hk2 htree hu
            subst hao
            go_wp2_with (refine wpList_append_known rfl _ _ 126 126 rfl _ _ rfl rfl _ w6 Hrun.out ?_)
            go_roundg (gk - 1)
            case measure => omega
            case rel => exact ⟨ks ++ [⟨u, ak, capk, x.deep + 1⟩], by rw [Hlen.out]; go_num, by rw [Hlen.out]; omega, HI2⟩
          · have hkl2 : ks.length = x.t.kids.length := by have := HI.out.kl; omega
            have Hd := Lib.hid (HDone.out ks _ _ HI.out hkl2)
            have hkle : ¬ (ks.length : Int) < (x.t.kids.length : Int) := by omega
            have hml := Hd.out.2
            have Hkl2 := Lib.hid hkl2
            clear hkl2
            go_wp2
            go_roundg (massL (st0 ++ ks))
            case measure => omega
            case rel => exact ⟨_, _, rfl, Nat.le_refl _, Hd.out.1⟩
end Go.Proofs.Ytkgfdgfhpdhhaaa
