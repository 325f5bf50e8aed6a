/- trail.Parse. Condition: the bytes lie in the world. -/
import Derived.Test.YtickdmalkmgkiaaPinv
import Derived.Test.YtickdmalkmgkiaaPget
import Derived.Defers
import Derived.BigQuiet
namespace Go.Proofs.Ytickdmalkmgkiaa
open Go.ChangeShapes Go.WideShapes Go.ChangeAt Go.RowKit

def ParsePost (l : List UInt8) (w : World) (e : Ending) (w' : World) : Prop :=
  Chg Nob w w' ∧ ((NoTrail l ∧ e = .returned (.tuple #[.agg #[.slice none 0 0, .int .i64 0], .int .i64 230])) ∨
    (∃ ao L cap c, mayBe c L = true ∧ l = tl c L ∧ e = .returned (.tuple #[.agg #[.slice ao L.length cap, .int .i64 c], .int .i64 0]) ∧ IsTrail w' ao L))

set_option maxRecDepth 100000 in
theorem results45 {B : Nat} {tm : Array Value} {w : World} {v c e0 : Value} (h2 : tm[2]? = some (.pointer (some ⟨B, 0, none⟩))) (h3 : tm[3]? = some (.pointer (some ⟨B + 1, 0, none⟩))) (hb : w.heap[B]? = some (.cells #[v, c] 24)) (hb1 : w.heap[B + 1]? = some (.cells #[e0] 27)) :
    (results Try.f45 tm).run Try.prog w = .ok (.tuple #[.agg #[v, c], e0]) w := by
  obtain ⟨c0, c1, _, _⟩ := cell_two hb
  have c2 := cell_row hb1 0 (v := e0) rfl
  simp [results, Try.results45, go_sem, h2, h3, c0, c1, c2]

theorem thrown {l : List UInt8} {w wr : World} {B : Nat} {tm : Array Value} (hno : NoTrail l) (hB : B = w.heap.size) (hex : ∃ v c e0, wr.heap[B]? = some (.cells #[v, c] 24) ∧ wr.heap[B + 1]? = some (.cells #[e0] 27) ∧ Chg Nob w wr)
    (h2 : tm[2]? = some (.pointer (some ⟨B, 0, none⟩))) (h3 : tm[3]? = some (.pointer (some ⟨B + 1, 0, none⟩))) :
    bodyPostD Try.prog Try.f45 (ParsePost l w) (Exit.panic broken) { tmps := tm, defers := [{ target := .fn (.func 64) #[.pointer (some ⟨B, 0, none⟩), .pointer (some ⟨B + 1, 0, none⟩)], args := #[] }] } wr := by
  obtain ⟨v, c, e0, hb, hb1, hc⟩ := hex
  refine leaves_cons (f := 64) (args := #[.pointer (some ⟨B, 0, none⟩), .pointer (some ⟨B + 1, 0, none⟩)]) (by simp) (by simp [go_sem]) ?_
  refine (pcatch_broken B (B + 1) v c e0 [] _ hb hb1 (by omega)).mono ?_
  rintro e u' w'' ⟨rfl, rfl, hc2, hb2, hb3⟩
  refine ⟨_, results45 h2 h3 hb2 hb3, hc.trans hc2 (fun i hi e => by rcases e with e | e <;> omega), .inl ⟨hno, rfl⟩⟩

theorem done45 {l : List UInt8} {w wr : World} {B : Nat} {tm : Array Value} {ao : Option Addr} {cap : Nat} {L : List Step} {c : Int} (hm : mayBe c L = true) (hl : l = tl c L) (htr : IsTrail wr ao L) (hc : Chg Nob w wr)
    (hb : wr.heap[B]? = some (.cells #[.slice ao L.length cap, .int .i64 c] 24)) (hb1 : wr.heap[B + 1]? = some (.cells #[.int .i64 0] 27))
    (h2 : tm[2]? = some (.pointer (some ⟨B, 0, none⟩))) (h3 : tm[3]? = some (.pointer (some ⟨B + 1, 0, none⟩))) :
    bodyPostD Try.prog Try.f45 (ParsePost l w) Exit.ret { tmps := tm, defers := [{ target := .fn (.func 64) #[.pointer (some ⟨B, 0, none⟩), .pointer (some ⟨B + 1, 0, none⟩)], args := #[] }] } wr := by
  refine leaves_cons (f := 64) (args := #[.pointer (some ⟨B, 0, none⟩), .pointer (some ⟨B + 1, 0, none⟩)]) (by simp) (by simp [go_sem]) ?_
  refine (pcatch_idle ⟨B, 0, none⟩ ⟨B + 1, 0, none⟩ _).mono ?_
  rintro e u' w'' ⟨rfl, rfl, rfl⟩
  exact ⟨_, results45 h2 h3 hb hb1, hc, .inr ⟨ao, L, cap, c, hm, hl, rfl, htr⟩⟩

/-- The steps: so many have been read. -/
def StRel (B : Nat) (w : World) (l : List UInt8) (a n : Nat) (i : Value) (wr : World) : Prop :=
  ∃ (M : List Step) (p : Nat) (v : Value), i = .int .i64 M.length ∧ M.length ≤ n ∧ M.all inStep = true ∧ l = tlx a n M (l.drop p) ∧ PInv B w ⟨l.toArray⟩ p ((a : Int) - 1) M v wr
def sv (ys : List Nat) (i : Nat) : Value := .int .i64 ((ys[i]?.map (fun y => (y : Int) - 1)).getD 0)
def sc (ys : List Nat) : Array Value := #[sv ys 0, sv ys 1, sv ys 2, sv ys 3]
theorem sc_set {w : World} {b : Nat} {ys : List Nat} {y : Nat} (h : w.heap[b]? = some (.cells (sc ys) 83 (0, 0))) (hy : ys.length < 4) : (w.setCell ⟨b, ys.length, none⟩ (.int .i64 ((y : Int) - 1))).heap[b]? = some (.cells (sc (ys ++ [y])) 83 (0, 0)) := by
  match ys, hy with
  | [], _ | [_], _ | [_, _], _ | [_, _, _], _ => simp [World.setCell, Array.getElem?_modify, h, sc, sv]
def ptrs (b : Nat) : Array Value := #[.pointer (some ⟨b, 0, none⟩), .pointer (some ⟨b, 1, none⟩), .pointer (some ⟨b, 2, none⟩), .pointer (some ⟨b, 3, none⟩)]
theorem ptrs_at {b j : Nat} (h : j < 4) : (ptrs b)[j]? = some (.pointer (some ⟨b, j, none⟩)) := by
  match j, h with
  | 0, _ | 1, _ | 2, _ | 3, _ => rfl
theorem sc_at {ys : List Nat} {j : Nat} (h : j < 4) : ∃ u, (sc ys)[j]? = some u := by
  match j, h with
  | 0, _ | 1, _ | 2, _ | 3, _ => exact ⟨_, rfl⟩
/-- A step: so many of its numbers have been read. -/
def InRel (B : Nat) (w : World) (l r0 : List UInt8) (c : Int) (M : List Step) (v : Value) (sb pb : Nat) (j : Value) (wr : World) : Prop :=
  ∃ (ys : List Nat) (p : Nat), j = .int .i64 ys.length ∧ ys.length ≤ 4 ∧ (∀ y ∈ ys, y ≤ 4001) ∧ r0 = ys.flatMap numb ++ l.drop p ∧ PInv B w ⟨l.toArray⟩ p c M v wr ∧ wr.heap[sb]? = some (.cells (sc ys) 83 (0, 0)) ∧ wr.heap[pb]? = some (.cells (ptrs sb) 104 (0, 0))

def MagRel2 (B : Nat) (w W0 : World) (l : List UInt8) (i : Value) (wr : World) : Prop :=
  ∃ k : Nat, i = .int .i64 k ∧ k ≤ 4 ∧ l.take k = magic.take k ∧ PInv B w ⟨l.toArray⟩ k 0 [] (.slice none 0 0) wr ∧ Chg (At1 (B + 2)) W0 wr

set_option maxRecDepth 100000 in
set_option maxHeartbeats 4000000 in
theorem Parse_any (v : Value) (l : List UInt8) (w : World) (hb : Bytes w v l) :
    Calls Try.prog 45 #[v] w (ParsePost l w) := by
  have hmf : ∀ (fn : Fn) (first cap : Array Value) (w : World), (Instr.makeFunc fn first cap).run Try.prog w = .ok (.func fn first cap) w := fun _ _ _ _ => rfl
  have hcv := (hb.chg (((Chg.refl Nob w).alloc (.cells #[.slice none 0 0, .int .i64 0] 24)).alloc (.cells #[.int .i64 0] 27))).conv
  have hl := hb.1
  clear hb
  go_enter_defers Try.func45, Try.ntmps45
  go_wp2_with fail
  (with_reducible refine (read_any _ _).mono ?_)
  rintro e w1 ⟨rfl, rfl⟩
  have kc := conv_const (((((w.alloc (Obj.cells #[Value.slice none 0 0, Value.int IntKind.i64 0] 24)).alloc (Obj.cells #[Value.int IntKind.i64 0] 27)).alloc (.cells #[.string ⟨l.toArray⟩, .int .i64 0] 88)).alloc (Obj.cells #[Value.pointer (some { block := w.heap.size + 2, off := 0 })] 40))) #[Value.int IntKind.u8 83, Value.int IntKind.u8 88, Value.int IntKind.u8 84, Value.int IntKind.u8 49] (w.heap.size + 4) 4 4 (by simp)
  go_wp2_with fail
  clear kc hcv
  simp only [Nat.add_assoc, Nat.reduceAdd]
  have hsz : w.heap.size = w.heap.size := rfl
  have h0 := heap_alloc_new w (Obj.cells #[Value.slice none 0 0, Value.int IntKind.i64 0] 24)
  have h1 := heap_alloc_new (w.alloc (Obj.cells #[Value.slice none 0 0, Value.int IntKind.i64 0] 24)) (Obj.cells #[Value.int IntKind.i64 0] 27)
  have h2 := heap_alloc_new ((w.alloc (Obj.cells #[Value.slice none 0 0, Value.int IntKind.i64 0] 24)).alloc (Obj.cells #[Value.int IntKind.i64 0] 27)) (.cells #[.string ⟨l.toArray⟩, .int .i64 0] 88)
  have h3 := heap_alloc_new (((w.alloc (Obj.cells #[Value.slice none 0 0, Value.int IntKind.i64 0] 24)).alloc (Obj.cells #[Value.int IntKind.i64 0] 27)).alloc (.cells #[.string ⟨l.toArray⟩, .int .i64 0] 88)) (Obj.cells #[Value.pointer (some { block := w.heap.size + 2, off := 0 })] 40)
  have h4 := heap_alloc_new (((((w.alloc (Obj.cells #[Value.slice none 0 0, Value.int IntKind.i64 0] 24)).alloc (Obj.cells #[Value.int IntKind.i64 0] 27)).alloc (.cells #[.string ⟨l.toArray⟩, .int .i64 0] 88)).alloc (Obj.cells #[Value.pointer (some { block := w.heap.size + 2, off := 0 })] 40))) (Obj.cells #[Value.int IntKind.u8 83, Value.int IntKind.u8 88, Value.int IntKind.u8 84, Value.int IntKind.u8 49] 5 (4, 5))
  simp only [World.size_alloc, Nat.add_assoc, Nat.reduceAdd] at h1 h2 h3 h4
  have hI : PInv w.heap.size w ⟨l.toArray⟩ 0 0 [] (.slice none 0 0) ((((((w.alloc (Obj.cells #[Value.slice none 0 0, Value.int IntKind.i64 0] 24)).alloc (Obj.cells #[Value.int IntKind.i64 0] 27)).alloc (.cells #[.string ⟨l.toArray⟩, .int .i64 0] 88)).alloc (Obj.cells #[Value.pointer (some { block := w.heap.size + 2, off := 0 })] 40))).alloc (Obj.cells #[Value.int IntKind.u8 83, Value.int IntKind.u8 88, Value.int IntKind.u8 84, Value.int IntKind.u8 49] 5 (4, 5))) :=
    ⟨((((Chg.refl Nob _).alloc _).alloc _).alloc _).alloc _ |>.at h0 (fun e => e), (((Chg.refl Nob _).alloc _).alloc _).alloc _ |>.at h1 (fun e => e), ⟨Nat.zero_le _, hl, ((Chg.refl Nob _).alloc _).alloc _ |>.at h2 (fun e => e)⟩, (Chg.refl Nob _).alloc _ |>.at h3 (fun e => e), World.ownsRow_nil _ _ _ _, (((((Chg.refl Nob _).alloc _).alloc _).alloc _).alloc _).alloc _, rfl⟩
  generalize hW : ((((((w.alloc (Obj.cells #[Value.slice none 0 0, Value.int IntKind.i64 0] 24)).alloc (Obj.cells #[Value.int IntKind.i64 0] 27)).alloc (.cells #[.string ⟨l.toArray⟩, .int .i64 0] 88)).alloc (Obj.cells #[Value.pointer (some { block := w.heap.size + 2, off := 0 })] 40))).alloc (Obj.cells #[Value.int IntKind.u8 83, Value.int IntKind.u8 88, Value.int IntKind.u8 84, Value.int IntKind.u8 49] 5 (4, 5))) = W0 at hI h4 ⊢
  clear h0 h1 h2 h3 hW hsz
  generalize w.heap.size = B at hI h4 ⊢
  have hrow : ∀ (k : Nat) (x : UInt8), magic[k]? = some x → ∀ u, Chg (At1 (B + 2)) W0 u → u.cell? ⟨B + 4, k, none⟩ = some (.int .u8 x.toNat) := by
    intro k x hk u hu
    refine hu.cell' (cell_row h4 k ?_) (fun e => by have e2 : B + 4 = B + 2 := e; omega)
    have : k < 4 := (List.getElem?_eq_some_iff.1 hk).1
    match k, this with
    | 0, _ | 1, _ | 2, _ | 3, _ => simp [magic] at hk; subst hk; rfl
  have Hrow := Lib.hid hrow
  clear hrow h4
  go_loopw [21] (fun i wr => MagRel2 B w W0 l i wr) (fun i _ => 4 - (intOf i).toNat)
  case atStart => exact ⟨0, rfl, by omega, rfl, hI, Chg.refl _ _⟩
  case round =>
    clear hI
    obtain ⟨k, rfl, hk, htk, hP, hcW⟩ := hrel
    have HP := Lib.hid hP
    have Htk := Lib.hid htk
    have HcW := Lib.hid hcW
    have y0 := cell_row hP.pv 0 (v := .pointer (some ⟨B + 2, 0, none⟩)) rfl
    have hsize : (⟨l.toArray⟩ : ByteArray).size = l.length := by show l.toArray.size = _; simp
    clear htk hcW
    by_cases hlt : k < 4
    · obtain ⟨x, hx⟩ : ∃ x, magic[k]? = some x := ⟨_, List.getElem?_eq_getElem (by simpa [magic] using hlt)⟩
      have hcx := Hrow.out k x hx _ HcW.out
      have Hx := Lib.hid hx
      clear hx
      by_cases hend : l.length ≤ k
      · have hno : NoTrail l := not_magic (fun e => by
          have := congrArg List.length e
          rw [List.length_take] at this
          have h4 : magic.length = 4 := rfl
          omega)
        have Hno := Lib.hid hno
        have hfx := rfixed_cut (B + 2) ⟨l.toArray⟩ k 1 wr hP.r rfl (by rw [hsize]; omega)
        clear hno hP
        go_wp2_with fail
        (with_reducible refine hfx.mono ?_)
        rintro e w5 ⟨rfl, q, rfl⟩
        clear hfx
        go_wp2_with fail
        exact thrown Hno.out HP.out.size ((HP.out.nob ((Chg.refl Nob wr).drewN q)).thrown (Chg.refl _ _)) rfl rfl
      · obtain ⟨y, hy⟩ : ∃ y, l[k]? = some y := ⟨_, List.getElem?_eq_getElem (by omega)⟩
        have hfx : Calls Try.prog 36 #[.pointer (some ⟨B + 2, 0, none⟩), .int .i64 1] wr (RdPost (B + 2) ⟨l.toArray⟩ (k + 1) (.int .u64 (leval (((⟨l.toArray⟩ : ByteArray).data.toList.drop k).take 1))) 0 wr) := rfixed_any (B + 2) ⟨l.toArray⟩ k 1 wr hP.r rfl (by rw [hsize]; omega)
        have hlv : leval (((⟨l.toArray⟩ : ByteArray).data.toList.drop k).take 1) = y.toNat := by
          show leval ((l.drop k).take 1) = _
          rw [drop_at hy]; simp [leval]
        rw [hlv] at hfx
        have Hy := Lib.hid hy
        clear hP hlv hy
        have hxl := x.toNat_lt
        have hyl := y.toNat_lt
        by_cases hxy : y = x
        · subst hxy
          have hnext : l.take (k + 1) = magic.take (k + 1) := by
            rw [List.take_add_one, List.take_add_one, Htk.out, Hx.out, Hy.out]
          have Hnext := Lib.hid hnext
          clear hnext
          go_wp2_with fail
          (with_reducible refine hfx.mono ?_)
          rintro e w5 ⟨rfl, hr5, hc5⟩
          clear hfx
          go_wp2_with fail
          go_roundw
          case rel => exact ⟨k + 1, by go_num, by omega, Hnext.out, HP.out.get hc5 hr5, HcW.out.trans1 hc5⟩
          case measure => simp [intOf]; omega
        · have hno : NoTrail l := not_magic (fun e => hxy (by
            have h1 := congrArg (fun q : List UInt8 => q[k]?) e
            simp only [List.getElem?_take, hlt, if_true] at h1
            rw [Hx.out, Hy.out] at h1
            exact Option.some.inj h1))
          have Hno := Lib.hid hno
          clear hno
          have hne : ((y.toNat : Int) == (x.toNat : Int)) = false := by
            rw [beq_eq_false_iff_ne]; intro e; exact hxy (UInt8.toNat_inj.1 (by omega))
          go_wp2_with fail
          (with_reducible refine hfx.mono ?_)
          rintro e w5 ⟨rfl, hr5, hc5⟩
          clear hfx
          go_wp2_with fail
          exact thrown Hno.out HP.out.size (HP.out.thrown hc5) rfl rfl
    · obtain rfl : k = 4 := by omega
      have hpre : l = magic ++ l.drop 4 := by
        have h1 := Htk.out
        rw [show magic.take 4 = magic from rfl] at h1
        rw [← h1]
        exact (List.take_append_drop 4 l).symm
      have Hpre := Lib.hid hpre
      have h1 : Calls Try.prog 65 #[.int .i64 100000, .pointer (some ⟨B + 3, 0, none⟩)] wr (GetPost (B + 2) ⟨l.toArray⟩ 4 100000 wr) := get_any (B + 2) (B + 3) ⟨l.toArray⟩ 4 100000 wr hP.r y0 (by omega)
      clear hpre hP
      go_wp2_with fail
      (with_reducible refine h1.mono ?_)
      clear h1 y0
      rintro e w5 ⟨hc5, ⟨a, ha, hda, rfl, hr5⟩ | ⟨hno, rfl⟩⟩
      · have hP5 := HP.out.get hc5 hr5
        clear HP HcW Htk hc5 hr5
        have HP5 := Lib.hid hP5
        have y0 := cell_row hP5.pv 0 (v := .pointer (some ⟨B + 2, 0, none⟩)) rfl
        obtain ⟨z0, z1, g0, g1⟩ := cell_two hP5.t
        have hda2 : l.drop 4 = numb a ++ l.drop (4 + (numb a).length) := hda
        have Hda := Lib.hid hda2
        have hw1 : wrap64 ((a : Int) - 1) = (a : Int) - 1 := by unfold wrap64; omega
        have hP6 := hP5.setc ((a : Int) - 1)
        have HP6 := Lib.hid hP6
        have y1 := cell_row hP6.pv 0 (v := .pointer (some ⟨B + 2, 0, none⟩)) rfl
        have h1 : Calls Try.prog 65 #[.int .i64 100000, .pointer (some ⟨B + 3, 0, none⟩)] _ (GetPost (B + 2) ⟨l.toArray⟩ (4 + (numb a).length) 100000 _) := get_any (B + 2) (B + 3) ⟨l.toArray⟩ (4 + (numb a).length) 100000 _ hP6.r y1 (by omega)
        clear hP6 hda hda2 hP5
        go_wp2_with fail
        (with_reducible refine h1.mono ?_)
        clear h1 y0 y1 z0 z1 g0 g1
        rintro e w6 ⟨hc6, ⟨n, hn, hdn, rfl, hr6⟩ | ⟨hno, rfl⟩⟩
        · have hP7 := HP6.out.get hc6 hr6
          clear HP5 HP6 hc6 hr6
          have hdn2 : l.drop (4 + (numb a).length) = numb n ++ l.drop (4 + (numb a).length + (numb n).length) := hdn
          have hx : l = tlx a n [] (l.drop (4 + (numb a).length + (numb n).length)) := by
            unfold tlx
            conv => lhs; rw [Hpre.out, Hda.out, hdn2]
            simp
          have HP7 := Lib.hid hP7
          have Hx := Lib.hid hx
          clear hP7 hdn hdn2 hx Hda Hpre Hrow
          generalize 4 + (numb a).length + (numb n).length = p0 at *
          go_wp2_with fail
          go_loopw [49] (fun i wr => StRel B w l a n i wr) (fun i _ => n - (intOf i).toNat)
          case atStart => exact ⟨[], p0, _, rfl, by simp, rfl, Hx.out, HP7.out⟩
          case round =>
            clear HP7 Hx
            obtain ⟨M, p, v1, rfl, hMn, hMs, hlx, hP⟩ := hrel
            have HP := Lib.hid hP
            have HM := Lib.hid (And.intro hMs hlx)
            clear hMs hlx
            by_cases hlt : M.length < n
            · have hP1 := hP.nob (((Chg.refl Nob wr).alloc (.cells #[.int .i64 0, .int .i64 0, .int .i64 0, .int .i64 0] 83)).alloc (.cells (ptrs wr.heap.size) 104))
              have k0 : ((wr.alloc (.cells #[.int .i64 0, .int .i64 0, .int .i64 0, .int .i64 0] 83)).alloc (.cells (ptrs wr.heap.size) 104)).heap[wr.heap.size]? = some (.cells (sc []) 83 (0, 0)) := ((Chg.refl Nob _).alloc _).at (heap_alloc_new wr _) (fun e => e)
              have k1 : ((wr.alloc (.cells #[.int .i64 0, .int .i64 0, .int .i64 0, .int .i64 0] 83)).alloc (.cells (ptrs wr.heap.size) 104)).heap[wr.heap.size + 1]? = some (.cells (ptrs wr.heap.size) 104 (0, 0)) := by
                rw [show wr.heap.size + 1 = (wr.alloc (.cells #[.int .i64 0, .int .i64 0, .int .i64 0, .int .i64 0] 83)).heap.size by simp]
                exact heap_alloc_new _ _
              have hsb : B + 3 < wr.heap.size := (Array.getElem?_eq_some_iff.1 hP.pv).1
              have hvb : ∀ k, v1.ownBlock = some k → k < wr.heap.size := fun k hk => (hP.row.lt k hk).2
              have Hvb := Lib.hid hvb
              clear hvb
              have Hk := Lib.hid (And.intro k0 (And.intro k1 hP1))
              clear k0 k1 hP1 hP
              go_wp2_with fail
              have Hk2 := Hk
              unfold ptrs at Hk2
              generalize ((wr.alloc (.cells #[.int .i64 0, .int .i64 0, .int .i64 0, .int .i64 0] 83)).alloc (.cells #[Value.pointer (some ⟨wr.heap.size, 0, none⟩), Value.pointer (some ⟨wr.heap.size, 1, none⟩), Value.pointer (some ⟨wr.heap.size, 2, none⟩), Value.pointer (some ⟨wr.heap.size, 3, none⟩)] 104)) = W1 at Hk2 ⊢
              obtain ⟨k0, k1, hP1⟩ := Hk2.out
              clear Hk Hk2 HP
              generalize wr.heap.size = sb at k0 k1 hsb Hvb ⊢
              clear wr
              have Hr0 : ∃ r0, r0 = l.drop p := ⟨_, rfl⟩
              obtain ⟨r0, hr0⟩ := Hr0
              rw [← hr0] at HM
              go_loopw [58] (fun j wr => InRel B w l r0 ((a : Int) - 1) M v1 sb (sb + 1) j wr) (fun j _ => 4 - (intOf j).toNat)
              case atStart => exact ⟨[], p, rfl, by simp, by simp, by simpa using hr0, hP1, k0, k1⟩
              case round =>
                clear hP1 k0 k1 hr0
                obtain ⟨ys, p, rfl, hy4, hys, hrd, hP, k0, k1⟩ := hrel
                have HP := Lib.hid hP
                have Hy := Lib.hid (And.intro hys hrd)
                have Hk := Lib.hid (And.intro k0 k1)
                clear hys hrd
                by_cases hlt4 : ys.length < 4
                · have x0 := cell_row k1 ys.length (ptrs_at (b := sb) hlt4)
                  have y0 := cell_row hP.pv 0 (v := .pointer (some ⟨B + 2, 0, none⟩)) rfl
                  have h1 : Calls Try.prog 65 #[.int .i64 4001, .pointer (some ⟨B + 3, 0, none⟩)] wr (GetPost (B + 2) ⟨l.toArray⟩ p 4001 wr) := get_any (B + 2) (B + 3) ⟨l.toArray⟩ p 4001 wr hP.r y0 (by omega)
                  clear k0 k1 hP
                  go_wp2_with fail
                  (with_reducible refine h1.mono ?_)
                  clear h1 y0 x0
                  rintro e w6 ⟨hc6, ⟨y, hy, hdy, rfl, hr6⟩ | ⟨hno, rfl⟩⟩
                  · have hP6 := HP.out.get hc6 hr6
                    have k0 := hc6.at Hk.out.1 (fun e => by have e : sb = B + 2 := e; omega)
                    have k1 := hc6.at Hk.out.2 (fun e => by have e : sb + 1 = B + 2 := e; omega)
                    obtain ⟨u, hu⟩ := sc_at (ys := ys) hlt4
                    have z0 := cell_row k0 ys.length hu
                    have z1 : w6.frozen? ⟨sb, ys.length, none⟩ = false := by unfold World.frozen?; simp [k0]
                    have hw1 : wrap64 ((y : Int) - 1) = (y : Int) - 1 := by unfold wrap64; omega
                    have Hk6 := Lib.hid (And.intro k0 k1)
                    have HP6 := Lib.hid hP6
                    clear HP Hk k0 k1 hP6 hc6 hr6
                    go_wp2_with fail
                    go_roundw
                    case rel =>
                      have hset : Chg (At1 sb) w6 (w6.setCell ⟨sb, ys.length, none⟩ (.int .i64 ((y : Int) - 1))) := (Chg.refl (At1 sb) w6).setCell (p := ⟨sb, ys.length, none⟩) (fun _ => rfl) _
                      refine ⟨ys ++ [y], p + (numb y).length, by simp, by rw [List.length_append]; simp; omega, ?_, ?_, HP6.out.other hset hsb (fun k hk e => by have := Hvb.out k hk; omega), sc_set Hk6.out.1 hlt4, hset.at Hk6.out.2 (fun e => by have e : sb + 1 = sb := e; omega)⟩
                      · intro z hz
                        rcases List.mem_append.1 hz with h | h
                        · exact Hy.out.1 z h
                        · simp at h; omega
                      · rw [List.flatMap_append, Hy.out.2]
                        simp only [List.flatMap_cons, List.flatMap_nil, List.append_nil, List.append_assoc]
                        rw [← hdy]
                    case measure => simp [intOf]; omega
                  · have Hno : Hid (NoTrail l) := by
                      show NoTrail l
                      exact fail_step ys HM.out.2 ha hn HM.out.1 hlt Hy.out.2 hlt4 Hy.out.1 hno
                    exact thrown Hno.out HP.out.size (HP.out.thrown hc6) rfl rfl
                · obtain ⟨y0, y1, y2, y3, rfl⟩ : ∃ y0 y1 y2 y3, ys = [y0, y1, y2, y3] := by
                    match ys, hy4, hlt4 with
                    | [a, b, c, d], _, _ => exact ⟨a, b, c, d, rfl⟩
                    | [], _, h => simp at h
                    | [_], _, h => simp at h
                    | [_, _], _, h => simp at h
                    | [_, _, _], _, h => simp at h
                    | _ :: _ :: _ :: _ :: _ :: _, h, _ => simp at h
                  have x0 := cell_row k0 0 (v := .int .i64 ((y0 : Int) - 1)) rfl
                  have x1 := cell_row k0 1 (v := .int .i64 ((y1 : Int) - 1)) rfl
                  have x2 := cell_row k0 2 (v := .int .i64 ((y2 : Int) - 1)) rfl
                  have x3 := cell_row k0 3 (v := .int .i64 ((y3 : Int) - 1)) rfl
                  obtain ⟨z0, z1, g0, g1⟩ := cell_two hP.t
                  have hPn := hP.nob ((Chg.refl Nob wr).alloc (.cells #[.int .i64 ((y0 : Int) - 1), .int .i64 ((y1 : Int) - 1), .int .i64 ((y2 : Int) - 1), .int .i64 ((y3 : Int) - 1)] 83))
                  have hnew := heap_alloc_new wr (.cells #[.int .i64 ((y0 : Int) - 1), .int .i64 ((y1 : Int) - 1), .int .i64 ((y2 : Int) - 1), .int .i64 ((y3 : Int) - 1)] 83)
                  have hys0 := Hy.out.1 y0 (by simp)
                  have hys1 := Hy.out.1 y1 (by simp)
                  have hys2 := Hy.out.1 y2 (by simp)
                  have hys3 := Hy.out.1 y3 (by simp)
                  obtain ⟨v', w', hap, hown, hgr⟩ := append_step (x := ((y0 : Int) - 1, (y1 : Int) - 1, (y2 : Int) - 1, (y3 : Int) - 1)) hPn.row (by have := (Array.getElem?_eq_some_iff.1 hPn.pv).1; omega) (by omega) (fun j u hj => cell_row hnew j (by simpa [scells] using hj))
                  obtain ⟨ao', cp', rfl⟩ := ownsRow_shape hown
                  have hc7 : Chg (fun k => v1.ownBlock = some k) _ w' := (Chg.refl _ _).grown hgr (fun k hk _ => hk)
                  have hne := ownsRow_ne_type hPn.row hPn.t (by decide)
                  have ht7 := hc7.at hPn.t (fun e => (hne _ e).2 rfl)
                  obtain ⟨q0, q1, f0, f1⟩ := cell_two ht7
                  have hP8 := hPn.app hown hgr
                  have HP8 := Lib.hid hP8
                  have Hap := Lib.hid hap
                  clear k0 k1 hP hPn hnew hown hgr hc7 hne ht7 hP8 hap
                  go_wp2_with (refine wpList_append_known rfl _ _ 22 22 rfl _ _ rfl rfl _ w' Hap.out ?_)
                  go_roundw
                  case rel =>
                    refine ⟨M ++ [((y0 : Int) - 1, (y1 : Int) - 1, (y2 : Int) - 1, (y3 : Int) - 1)], p, _, by rw [List.length_append]; rfl, by rw [List.length_append]; simp; omega, ?_, ?_, HP8.out⟩
                    · rw [List.all_append, HM.out.1]
                      simp only [List.all_cons, List.all_nil, Bool.and_true, Bool.true_and, inStep, Bool.and_eq_true]
                      exact ⟨⟨⟨inR_of (by omega) (by omega), inR_of (by omega) (by omega)⟩, inR_of (by omega) (by omega)⟩, inR_of (by omega) (by omega)⟩
                    · refine tlx_next HM.out.2 ?_
                      rw [Hy.out.2]
                      have e : ∀ y : Nat, ((y : Int) - 1 + 1).toNat = y := fun y => by omega
                      simp only [stepb, e, List.flatMap_cons, List.flatMap_nil, List.append_nil, List.append_assoc]
                  case measure => simp [intOf]; omega
            · have hMn2 : M.length = n := by omega
              subst hMn2
              obtain ⟨z0, z1, g0, g1⟩ := cell_two hP.t
              have x0 := cell_row hP.pv 0 (v := .pointer (some ⟨B + 2, 0, none⟩)) rfl
              have hlf := rleft_any (B + 2) ⟨l.toArray⟩ p wr hP.r
              have hpl : p ≤ l.length := by have := hP.r.1; omega
              rw [hsize] at hlf
              by_cases hp : p = l.length
              · subst hp
                have hz : ((l.length : Int) - (l.length : Int)) = 0 := by omega
                rw [hz] at hlf
                have hlx : l = tlx a M.length M [] := by have := HM.out.2; rw [List.drop_length] at this; exact this
                obtain ⟨ao', cp', rfl, _⟩ := trail_of_row hP.row (by omega)
                have Hlx := Lib.hid hlx
                clear hlx hP
                go_wp2_with fail
                (with_reducible refine hlf.mono ?_)
                clear hlf
                rintro e w6 ⟨rfl, q, rfl⟩
                have hP6 := HP.out.nob ((Chg.refl Nob wr).drewN q)
                have HP6 := Lib.hid hP6
                obtain ⟨ao'', cp'', hsl, htr⟩ := trail_of_row hP6.row (by omega)
                cases hsl
                clear hP6 HP
                go_wp2_with fail
                (with_reducible refine (valid_any ao' cp' ((a : Int) - 1) M _ htr).mono ?_)
                clear htr
                rintro e w7 ⟨rfl, hc7⟩
                have hP7 := HP6.out.nob hc7
                have HP7 := Lib.hid hP7
                clear hP7 HP6 hc7
                cases hm : mayBe ((a : Int) - 1) M with
                | false =>
                  have Hno : Hid (NoTrail l) := by
                    show NoTrail l
                    exact fail_end Hlx.out ha hn HM.out.1 rfl (.inr hm)
                  go_wp2_with fail
                  exact thrown Hno.out HP7.out.size (HP7.out.thrown (Chg.refl _ _)) rfl rfl
                | true =>
                  obtain ⟨z0, z1, g0, g1⟩ := cell_two HP7.out.t
                  have e0 := cell_row HP7.out.e 0 (v := .int .i64 0) rfl
                  have e1 : w7.frozen? ⟨B + 1, 0, none⟩ = false := by unfold World.frozen?; simp [HP7.out.e]
                  have hgood := good_end Hlx.out rfl
                  have Hgood := Lib.hid hgood
                  clear hgood
                  go_wp2_with fail
                  have hB := HP7.out.size
                  have s1 := ((Chg.refl (At1 B) w7).setCell (p := ⟨B, 0, none⟩) (fun _ => rfl) (.slice ao' M.length cp')).setCell (p := ⟨B, 1, none⟩) (fun _ => rfl) (.int .i64 ((a : Int) - 1))
                  have b1 := block_two_set1 (u := .int .i64 ((a : Int) - 1)) (block_two_set0 (u := .slice ao' M.length cp') HP7.out.t)
                  have b2 := s1.at HP7.out.e (fun e => by have e : B + 1 = B := e; omega)
                  have s2 := (Chg.refl (At1 (B + 1)) ((w7.setCell ⟨B, 0, none⟩ (.slice ao' M.length cp')).setCell ⟨B, 1, none⟩ (.int .i64 ((a : Int) - 1)))).setCell (p := ⟨B + 1, 0, none⟩) (fun _ => rfl) (.int .i64 0)
                  have b3 := s2.at b1 (fun e => by have e : B = B + 1 := e; omega)
                  have b4 := block_one_set (u := .int .i64 0) b2
                  have r1 := ownsRow_chg HP7.out.row s1 (fun k hk e => (ownsRow_ne_type HP7.out.row HP7.out.t (by decide) k hk).2 e)
                  have r2 := ownsRow_chg r1 s2 (fun k hk e => (ownsRow_ne_type r1 b2 (by decide) k hk).2 e)
                  obtain ⟨ao3, cp3, hsl, htr⟩ := trail_of_row r2 (by omega)
                  cases hsl
                  exact done45 hm Hgood.out htr ((HP7.out.chg.trans s1 (fun i hi e => by have e : i = B := e; omega)).trans s2 (fun i hi e => by have e : i = B + 1 := e; omega)) b3 b4 rfl rfl
              · have Hno : Hid (NoTrail l) := by
                  show NoTrail l
                  exact fail_end HM.out.2 ha hn HM.out.1 rfl (.inl (fun e => by
                    have := congrArg List.length e
                    rw [List.length_drop] at this
                    simp at this
                    omega))
                have hgt : (0 : Int) < (l.length : Int) - (p : Int) := by omega
                clear hP
                go_wp2_with fail
                (with_reducible refine hlf.mono ?_)
                clear hlf
                rintro e w6 ⟨rfl, q, rfl⟩
                go_wp2_with fail
                exact thrown Hno.out HP.out.size ((HP.out.nob ((Chg.refl Nob wr).drewN q)).thrown (Chg.refl _ _)) rfl rfl
        · have hla : l = magic ++ (numb a ++ l.drop (4 + (numb a).length)) := by conv => lhs; rw [Hpre.out, Hda.out]
          have Hno := Lib.hid (fail_n hla ha hno)
          exact thrown Hno.out HP6.out.size (HP6.out.thrown hc6) rfl rfl
      · have Hno := Lib.hid (fail_c Hpre.out hno)
        exact thrown Hno.out HP.out.size (HP.out.thrown hc5) rfl rfl
end Go.Proofs.Ytickdmalkmgkiaa
