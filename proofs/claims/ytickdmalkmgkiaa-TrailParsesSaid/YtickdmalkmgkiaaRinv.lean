/- What the reference's parsing of a trail keeps from step to step. Conditions: as each theorem states. -/
import Derived.Test.YtickdmalkmgkiaaParse
import Derived.Test.YtickdmalkmgkiaaRget
namespace Go.Proofs.Ytickdmalkmgkiaa
open Go.ChangeShapes Go.WideShapes Go.ChangeAt Go.RowKit

structure RInv (B tb : Nat) (w : World) (s : ByteArray) (p : Nat) (bad : Bool) (c : Int) (M : List Step) (v : Value) (wr : World) : Prop where
  res : wr.heap[B]? = some (.cells #[.slice none 0 0, .int .i64 0] 24)
  r : isRg wr (B + 1) s p bad
  t : wr.heap[tb]? = some (.cells #[v, .int .i64 c] 24)
  row : wr.ownsRow B 83 4 v M.length (M.flatMap scells)
  chg : Chg Nob w wr
  size : B = w.heap.size
  lt : B + 1 < tb

section
variable {B tb : Nat} {w wr w' : World} {s : ByteArray} {p p' : Nat} {c : Int} {M : List Step} {v : Value} {bad bad' : Bool}
theorem isRg.chg {S : Nat → Prop} {b : Nat} (h : isRg w b s p bad) (hc : Chg S w w') (hb : ¬ S b) : isRg w' b s p bad := ⟨h.1, h.2.1, hc.at h.2.2 hb⟩
theorem RInv.nob (h : RInv B tb w s p bad c M v wr) (hc : Chg Nob wr w') : RInv B tb w s p bad c M v w' :=
  ⟨hc.at h.res (fun e => e), h.r.chg hc (fun e => e), hc.at h.t (fun e => e), ownsRow_chg h.row hc (fun _ _ e => e), h.chg.trans1 hc, h.size, h.lt⟩
theorem RInv.get (h : RInv B tb w s p bad c M v wr) (hc : Chg (At1 (B + 1)) wr w') (hr : isRg w' (B + 1) s p' bad') : RInv B tb w s p' bad' c M v w' :=
  ⟨hc.at h.res (fun e => by have e : B = B + 1 := e; omega), hr, hc.at h.t (fun e => by have e : tb = B + 1 := e; have := h.lt; omega),
    ownsRow_chg h.row hc (fun k hk e => (ownsRow_ne_type h.row h.r.2.2 (by decide) k hk).2 e), h.chg.trans hc (fun i hi e => by have e : i = B + 1 := e; have := h.size; omega), h.size, h.lt⟩
theorem RInv.other {b : Nat} (h : RInv B tb w s p bad c M v wr) (hc : Chg (At1 b) wr w') (hb : tb < b) (hrow : ∀ k, v.ownBlock = some k → k ≠ b) : RInv B tb w s p bad c M v w' := by
  have hlt := h.lt
  exact ⟨hc.at h.res (fun e => by have e : B = b := e; omega), h.r.chg hc (fun e => by have e : B + 1 = b := e; omega), hc.at h.t (fun e => by have e : tb = b := e; omega),
    ownsRow_chg h.row hc (fun k hk e => hrow k hk e), h.chg.trans hc (fun i hi e => by have e : i = b := e; have := h.size; omega), h.size, h.lt⟩
theorem RInv.app (h : RInv B tb w s p bad c M v wr) {v' : Value} {x : Step} (hown : w'.ownsRow B 83 4 v' (M.length + 1) (M.flatMap scells ++ scells x)) (hg : wr.grownBy w' v.ownBlock) :
    RInv B tb w s p bad c (M ++ [x]) v' (w'.setCell ⟨tb, 0, none⟩ v') := by
  have hc : Chg (fun k => v.ownBlock = some k) wr w' := (Chg.refl _ _).grown hg (fun k hk _ => hk)
  have hne : ∀ b cs t m, wr.heap[b]? = some (.cells cs t m) → (83 : Nat) ≠ t → ¬ v.ownBlock = some b := fun b cs t m hb ht e => (ownsRow_ne_type h.row hb ht b e).2 rfl
  have ht' := hc.at h.t (hne _ _ _ _ h.t (by decide))
  have he' := hc.at h.res (hne _ _ _ _ h.res (by decide))
  have hr' := h.r.chg hc (hne _ _ _ _ h.r.2.2 (by decide))
  have hlt := h.lt
  have hs : Chg (At1 tb) w' (w'.setCell ⟨tb, 0, none⟩ v') := (Chg.refl (At1 tb) w').setCell (p := ⟨tb, 0, none⟩) (fun _ => rfl) _
  refine ⟨hs.at he' (fun e => by have e : B = tb := e; omega), hr'.chg hs (fun e => by have e : B + 1 = tb := e; omega), block_two_set0 ht', ?_, ?_, h.size, h.lt⟩
  · rw [List.flatMap_append, List.length_append]
    simp only [List.flatMap_cons, List.flatMap_nil, List.append_nil, List.length_cons, List.length_nil, Nat.zero_add]
    exact ownsRow_chg hown hs (fun k hk e => (ownsRow_ne_type hown ht' (by decide) k hk).2 e)
  · refine (h.chg.grown hg (fun k hk hlt => ?_)).trans hs (fun i hi e => by have e : i = tb := e; have := h.size; omega)
    have h1 := (h.row.lt k hk).1
    have := h.size
    omega
end

/-- So much has been read: rightly, or what is there is no trail. -/
def RState (l : List UInt8) (nv : Nat) (cv : Int) (M : List Step) (p : Nat) (bad : Bool) : Prop :=
  (bad = false ∧ ∃ a : Nat, a ≤ 100000 ∧ nv ≤ 100000 ∧ cv = (a : Int) - 1 ∧ M.length ≤ nv ∧ M.all inStep = true ∧ l = tlx a nv M (l.drop p)) ∨ (bad = true ∧ NoTrail l)
def StepSt (l : List UInt8) (nv : Nat) (cv : Int) (M : List Step) (ys : List Nat) (p : Nat) (bad : Bool) : Prop :=
  (bad = false ∧ (∀ y ∈ ys, y ≤ 4001) ∧ ∃ a : Nat, a ≤ 100000 ∧ nv ≤ 100000 ∧ cv = (a : Int) - 1 ∧ M.length < nv ∧ M.all inStep = true ∧ l = tlx a nv M (ys.flatMap numb ++ l.drop p)) ∨ (bad = true ∧ NoTrail l)

theorem get_step {l : List UInt8} {nv : Nat} {cv : Int} {M : List Step} {ys : List Nat} {p b : Nat} {bad : Bool} {w w' : World} {e : Ending} (h : StepSt l nv cv M ys p bad) (hy : ys.length < 4) (hp : RgPost b ⟨l.toArray⟩ p 4001 bad w e w') :
    ∃ (y p' : Nat) (bad' : Bool), y ≤ 34359738368 ∧ e = .returned (.int .i64 y) ∧ isRg w' b ⟨l.toArray⟩ p' bad' ∧ Chg (At1 b) w w' ∧ StepSt l nv cv M (ys ++ [y]) p' bad' := by
  obtain ⟨hc, ⟨rfl, n, hn, hd, rfl, hr⟩ | ⟨hno, v, p', hv, rfl, hr⟩⟩ := hp
  · refine ⟨n, _, false, by omega, rfl, hr, hc, ?_⟩
    rcases h with ⟨_, hys, a, ha, hnv, hcv, hM, hMs, hl⟩ | ⟨h, _⟩
    · refine .inl ⟨rfl, fun y hy => ?_, a, ha, hnv, hcv, hM, hMs, ?_⟩
      · rcases List.mem_append.1 hy with h | h
        · exact hys y h
        · simp at h; omega
      · have hd2 : l.drop p = numb n ++ l.drop (p + (numb n).length) := hd
        rw [List.flatMap_append, List.append_assoc]
        simp only [List.flatMap_cons, List.flatMap_nil, List.append_nil]
        rw [← hd2]
        exact hl
    · cases h
  · refine ⟨v, p', true, hv, rfl, hr, hc, .inr ⟨rfl, ?_⟩⟩
    rcases h with ⟨hb, hys, a, ha, hnv, hcv, hM, hMs, hl⟩ | ⟨_, h⟩
    · rcases hno with h | h
      · rw [hb] at h; cases h
      · exact fail_step ys hl ha hnv hMs hM rfl hy hys h
    · exact h
theorem step_start {l : List UInt8} {nv : Nat} {cv : Int} {M : List Step} {p : Nat} {bad : Bool} (h : RState l nv cv M p bad) (hb : bad = false) (hM : M.length < nv) : StepSt l nv cv M [] p bad := by
  rcases h with ⟨_, a, ha, hnv, hcv, _, hMs, hl⟩ | ⟨h, _⟩
  · exact .inl ⟨hb, by simp, a, ha, hnv, hcv, hM, hMs, by simpa using hl⟩
  · rw [hb] at h; cases h
theorem step_done {l : List UInt8} {nv : Nat} {cv : Int} {M : List Step} {y0 y1 y2 y3 p : Nat} {bad : Bool} (h : StepSt l nv cv M [y0, y1, y2, y3] p bad) : RState l nv cv (M ++ [((y0 : Int) - 1, (y1 : Int) - 1, (y2 : Int) - 1, (y3 : Int) - 1)]) p bad := by
  rcases h with ⟨hb, hys, a, ha, hnv, hcv, hM, hMs, hl⟩ | h
  · have h0 := hys y0 (by simp)
    have h1 := hys y1 (by simp)
    have h2 := hys y2 (by simp)
    have h3 := hys y3 (by simp)
    refine .inl ⟨hb, a, ha, hnv, hcv, by rw [List.length_append]; simp; omega, ?_, tlx_next hl ?_⟩
    · rw [List.all_append, hMs]
      simp only [List.all_cons, List.all_nil, Bool.and_true, Bool.true_and, inStep, Bool.and_eq_true]
      exact ⟨⟨⟨inR_of (by omega) (by omega), inR_of (by omega) (by omega)⟩, inR_of (by omega) (by omega)⟩, inR_of (by omega) (by omega)⟩
    · have e : ∀ y : Nat, ((y : Int) - 1 + 1).toNat = y := fun y => by omega
      simp only [stepb, e, List.flatMap_cons, List.flatMap_nil, List.append_nil, List.append_assoc]
  · exact .inr h
/-- The head. -/
def HeadSt (l : List UInt8) (cv : Int) (p : Nat) (bad : Bool) : Prop :=
  (bad = false ∧ ∃ a : Nat, a ≤ 100000 ∧ cv = (a : Int) - 1 ∧ l = magic ++ (numb a ++ l.drop p)) ∨ (bad = true ∧ NoTrail l)
theorem head_first {l : List UInt8} {b : Nat} {w w' : World} {e : Ending} (hl : l = magic ++ l.drop 4) (hp : RgPost b ⟨l.toArray⟩ 4 100000 false w e w') :
    ∃ (y p' : Nat) (bad' : Bool), y ≤ 34359738368 ∧ e = .returned (.int .i64 y) ∧ isRg w' b ⟨l.toArray⟩ p' bad' ∧ Chg (At1 b) w w' ∧ HeadSt l ((y : Int) - 1) p' bad' := by
  obtain ⟨hc, ⟨_, n, hn, hd, rfl, hr⟩ | ⟨hno, v, p', hv, rfl, hr⟩⟩ := hp
  · have hd2 : l.drop 4 = numb n ++ l.drop (4 + (numb n).length) := hd
    exact ⟨n, _, false, by omega, rfl, hr, hc, .inl ⟨rfl, n, hn, rfl, by rw [← hd2]; exact hl⟩⟩
  · refine ⟨v, p', true, hv, rfl, hr, hc, .inr ⟨rfl, ?_⟩⟩
    rcases hno with h | h
    · cases h
    · exact fail_c hl h
theorem head_second {l : List UInt8} {b p : Nat} {bad : Bool} {cv : Int} {w w' : World} {e : Ending} (hh : HeadSt l cv p bad) (hp : RgPost b ⟨l.toArray⟩ p 100000 bad w e w') :
    ∃ (y p' : Nat) (bad' : Bool), y ≤ 34359738368 ∧ e = .returned (.int .i64 y) ∧ isRg w' b ⟨l.toArray⟩ p' bad' ∧ Chg (At1 b) w w' ∧ RState l y cv [] p' bad' := by
  obtain ⟨hc, ⟨rfl, n, hn, hd, rfl, hr⟩ | ⟨hno, v, p', hv, rfl, hr⟩⟩ := hp
  · rcases hh with ⟨_, a, ha, hcv, hl⟩ | ⟨h, _⟩
    · have hd2 : l.drop p = numb n ++ l.drop (p + (numb n).length) := hd
      refine ⟨n, _, false, by omega, rfl, hr, hc, .inl ⟨rfl, a, ha, hn, hcv, by simp, rfl, ?_⟩⟩
      unfold tlx
      simp only [List.flatMap_nil, List.nil_append]
      rw [← hd2]
      exact hl
    · cases h
  · refine ⟨v, p', true, hv, rfl, hr, hc, .inr ⟨rfl, ?_⟩⟩
    rcases hh with ⟨hb, a, ha, hcv, hl⟩ | ⟨_, h⟩
    · rcases hno with h | h
      · rw [hb] at h; cases h
      · exact fail_n hl ha h
    · exact h
theorem state_end {l : List UInt8} {nv : Nat} {cv : Int} {M : List Step} {p : Nat} {bad : Bool} (h : RState l nv cv M p bad) (hM : bad = false → M.length = nv) (hend : bad = true ∨ l.drop p ≠ [] ∨ mayBe cv M = false) : NoTrail l := by
  rcases h with ⟨hb, a, ha, hnv, hcv, _, hMs, hl⟩ | ⟨_, h⟩
  · rcases hend with h | h
    · rw [hb] at h; cases h
    · exact fail_end hl ha hnv hMs (hM hb) (by rcases h with h | h; exact .inl h; exact .inr (by rw [← hcv]; exact h))
  · exact h
theorem state_good {l : List UInt8} {nv : Nat} {cv : Int} {M : List Step} {p : Nat} {bad : Bool} (h : RState l nv cv M p bad) (hb : bad = false) (hM : M.length = nv) (hd : l.drop p = []) : l = tl cv M := by
  rcases h with ⟨_, a, ha, hnv, hcv, _, hMs, hl⟩ | ⟨h, _⟩
  · rw [hd] at hl
    rw [hcv]
    exact good_end hl hM
  · rw [hb] at h; cases h
end Go.Proofs.Ytickdmalkmgkiaa
