/- Plain lemmas on numbers as bytes, on worlds that keep what lies outside a set of blocks, on rows that a call owns. Conditions: none. -/
import Derived.Test.YtickdmalkmgkiaaRows
import Derived.WalkKit
import Derived.WalkSpells
import Derived.WalkLawsBesides
import Derived.Lib.Hide
import Derived.Lib.AppendStr
namespace Go.Proofs.Ytickdmalkmgkiaa
open Go.RowKit

/-- a number's bytes. -/
def numb (n : Nat) : List UInt8 := if n < 128 then [UInt8.ofNat n] else UInt8.ofNat (128 + n % 128) :: numb (n / 128)
termination_by n
decreasing_by omega
theorem numb_lt {n : Nat} (h : n < 128) : numb n = [UInt8.ofNat n] := by rw [numb, if_pos h]
theorem numb_ge {n : Nat} (h : ¬ n < 128) : numb n = UInt8.ofNat (128 + n % 128) :: numb (n / 128) := by rw [numb, if_neg h]
theorem numb_len (k : Nat) : ∀ n, n < 128 ^ (k + 1) → (numb n).length ≤ k + 1 := by
  induction k with
  | zero => intro n h; rw [numb_lt (by omega)]; simp
  | succ k ih =>
    intro n h
    by_cases hl : n < 128
    · rw [numb_lt hl]; simp
    · rw [numb_ge hl]; have := ih (n / 128) (by rw [Nat.pow_succ] at h; omega); simp; omega
theorem numb_len10 {n : Nat} (h : n ≤ 18446744073709551615) : (numb n).length ≤ 10 := numb_len 9 n (by simp only [Nat.reduceAdd, Nat.reducePow]; omega)
theorem numb_pos (n : Nat) : 0 < (numb n).length := by rw [numb]; split <;> simp

/-- a fixed number's bytes. -/
def fixb : Nat → Nat → List UInt8
  | _, 0 => []
  | n, k + 1 => UInt8.ofNat n :: fixb (n / 256) k
theorem fixb_len : ∀ (k n : Nat), (fixb n k).length = k
  | 0, _ => rfl
  | k + 1, n => by rw [fixb, List.length_cons, fixb_len k]

def bv (c : UInt8) : Value := .int .u8 (c.toNat : Int)
theorem bv_lt {m : Nat} (h : m < 128) : bv (UInt8.ofNat m) = .int .u8 m := by
  simp [bv]; omega
theorem bv_mod (m : Nat) : bv (UInt8.ofNat m) = .int .u8 ((m : Int) % 256) := by
  simp [bv]
theorem or128 : ∀ k : Nat, k < 256 → bits BinOp.or IntKind.u8 (k : Int) 128 = ((128 + k % 128 : Nat) : Int) := by decide +kernel
theorem bv_or (m : Nat) : bv (UInt8.ofNat (128 + m % 128)) = .int .u8 (bits BinOp.or IntKind.u8 ((m : Int) % 256) 128) := by
  have h := or128 (m % 256) (by omega)
  have e : ((m % 256 : Nat) : Int) = (m : Int) % 256 := by omega
  rw [e] at h
  rw [h]; simp [bv]; omega
theorem bv_oneCell (l : List UInt8) : ∀ u ∈ l.map bv, u.oneCell' = true := by
  intro u hu; simp at hu; obtain ⟨x, _, rfl⟩ := hu; rfl
theorem strCells_bv (s : ByteArray) : Lib.strCells s = s.data.toList.map bv := rfl
theorem Try.info5 : (Try.prog.info? 5).map (fun i => (i.zero, i.size, i.bytes)) = some (some (.int .u8 0), 1, 1) := by kernel_rfl

/-- Outside S the world is as it was. -/
structure Chg (S : Nat → Prop) (w w' : World) : Prop where
  os : w'.os = w.os
  tape : w'.tape = w.tape
  output : w'.output = w.output
  size : w.heap.size ≤ w'.heap.size
  block : ∀ k, k < w.heap.size → ¬ S k → w'.heap[k]? = w.heap[k]?
def Nob : Nat → Prop := fun _ => False
theorem Chg.refl (S : Nat → Prop) (w : World) : Chg S w w := ⟨rfl, rfl, rfl, Nat.le_refl _, fun _ _ _ => rfl⟩
theorem Chg.trans {S S' : Nat → Prop} {a b c : World} (h : Chg S a b) (k : Chg S' b c) (hs : ∀ i, i < a.heap.size → S' i → S i) : Chg S a c :=
  ⟨k.os.trans h.os, k.tape.trans h.tape, k.output.trans h.output, Nat.le_trans h.size k.size, fun i hi hn => (k.block i (Nat.lt_of_lt_of_le hi h.size) (fun e => hn (hs i hi e))).trans (h.block i hi hn)⟩
theorem Chg.trans1 {S : Nat → Prop} {a b c : World} (h : Chg S a b) (k : Chg S b c) : Chg S a c := h.trans k (fun _ _ e => e)
theorem Chg.mono {S S' : Nat → Prop} {w w' : World} (h : Chg S w w') (hs : ∀ i, i < w.heap.size → S i → S' i) : Chg S' w w' :=
  ⟨h.os, h.tape, h.output, h.size, fun i hi hn => h.block i hi (fun e => hn (hs i hi e))⟩
theorem Chg.any {S : Nat → Prop} {w w' : World} (h : Chg Nob w w') : Chg S w w' := h.mono (fun _ _ e => e.elim)
theorem Chg.alloc {S : Nat → Prop} {a w : World} (h : Chg S a w) (o : Obj) : Chg S a (w.alloc o) :=
  h.trans (S' := fun _ => False) ⟨rfl, rfl, rfl, by simp, fun k hk _ => Below.heap_alloc _ _ _ hk⟩ (fun _ _ e => e.elim)
theorem Chg.drew {S : Nat → Prop} {a w : World} (h : Chg S a w) : Chg S a w.drew := ⟨h.os, h.tape, h.output, h.size, h.block⟩
theorem Chg.drewN {S : Nat → Prop} {a w : World} (h : Chg S a w) (n : Nat) : Chg S a (w.drewN n) := ⟨h.os, h.tape, h.output, h.size, h.block⟩
theorem Chg.setCell {S : Nat → Prop} {a w : World} (h : Chg S a w) {p : Addr} (hp : p.block < a.heap.size → S p.block) (u : Value) : Chg S a (w.setCell p u) :=
  h.trans (S' := fun k => k = p.block) ⟨rfl, rfl, rfl, by simp [World.setCell], fun k _ hn => Below.heap_setCell _ _ _ _ hn⟩ (fun i hi e => by subst e; exact hp hi)
theorem Chg.grown {S : Nat → Prop} {a w w' : World} {row : Option Nat} (h : Chg S a w) (hg : w.grownBy w' row) (hr : ∀ k, row = some k → k < a.heap.size → S k) : Chg S a w' :=
  h.trans (S' := fun k => row = some k) ⟨hg.os, hg.tape, hg.output, hg.size, fun k hk hn => hg.block k hk (fun e => hn e.symm)⟩ (fun i hi e => hr i e hi)
theorem Chg.below {S : Nat → Prop} {B : Nat} {w w' : World} (h : Chg S w w') (hB : B ≤ w.heap.size) (hs : ∀ i, i < w.heap.size → S i → B ≤ i) : Below B w w' :=
  ⟨h.os, h.tape, h.output, h.size, fun k hk => h.block k (by omega) (fun e => by have := hs k (by omega) e; omega)⟩
theorem Chg.of_below {w w' : World} (h : Below w.heap.size w w') : Chg Nob w w' :=
  ⟨h.os, h.tape, h.output, h.size, fun k hk _ => h.block k hk⟩
theorem Chg.toBelow {w w' : World} (h : Chg Nob w w') : Below w.heap.size w w' := h.below (Nat.le_refl _) (fun _ _ e => e.elim)
theorem Chg.at {S : Nat → Prop} {w w' : World} (h : Chg S w w') {k : Nat} {o : Obj} (hk : w.heap[k]? = some o) (hn : ¬ S k) : w'.heap[k]? = some o := by
  rw [h.block k (Array.getElem?_eq_some_iff.1 hk).1 hn]; exact hk
theorem Chg.cell {S : Nat → Prop} {w w' : World} (h : Chg S w w') {a : Addr} (hk : a.block < w.heap.size) (hn : ¬ S a.block) : w'.cell? a = w.cell? a := World.cell?_of_block (h.block a.block hk hn)
theorem Chg.cell' {S : Nat → Prop} {w w' : World} (h : Chg S w w') {a : Addr} {v : Value} (hc : w.cell? a = some v) (hn : ¬ S a.block) : w'.cell? a = some v := by
  rw [h.cell (World.block_lt_of_cell? w a hc) hn]; exact hc
theorem ownsRow_chg {S : Nat → Prop} {w w' : World} {B : Nat} {e : TypeId} {z : Nat} {v : Value} {n : Nat} {xs : List Value} (h : w.ownsRow B e z v n xs) (hc : Chg S w w') (hn : ∀ k, v.ownBlock = some k → ¬ S k) : w'.ownsRow B e z v n xs := by
  refine ⟨h.1, ?_⟩
  rcases h.2 with h2 | ⟨g, cap, cur, rfl, hb, hg, rest⟩
  · exact .inl h2
  · exact .inr ⟨g, cap, cur, rfl, hb, hc.at hg (hn g rfl), rest⟩
theorem ownsRow_some {w : World} {B : Nat} {e : TypeId} {z : Nat} {v : Value} {n : Nat} {xs : List Value} (h : w.ownsRow B e z v n xs) (hn : 0 < n) : ∃ g cap, v = .slice (some ⟨g, 0, none⟩) n cap ∧ ∀ j u, xs[j]? = some u → w.cell? ((⟨g, 0, none⟩ : Addr).add j) = some u := by
  rcases h.2 with ⟨_, h0⟩ | ⟨g, cap, cur, hv, _⟩
  · omega
  · exact ⟨g, cap, hv, h.cells (by rw [hv]; rfl)⟩
theorem ownsRow_shape {w : World} {B : Nat} {e : TypeId} {z : Nat} {v : Value} {n : Nat} {xs : List Value} (h : w.ownsRow B e z v n xs) : ∃ ao c, v = .slice ao n c := by
  rcases h.2 with ⟨h1, h0⟩ | ⟨g, cap, cur, hv, _⟩
  · exact ⟨none, 0, by rw [h1, h0]⟩
  · exact ⟨_, _, hv⟩
theorem ownsRow_drewN {w : World} {B : Nat} {e : TypeId} {z : Nat} {v : Value} {n : Nat} {xs : List Value} (h : w.ownsRow B e z v n xs) (k : Nat) : (w.drewN k).ownsRow B e z v n xs := h
theorem ownsRow_mono {w : World} {B B' : Nat} {e : TypeId} {z : Nat} {v : Value} {n : Nat} {xs : List Value} (h : w.ownsRow B e z v n xs) (hB : B' ≤ B) : w.ownsRow B' e z v n xs := by
  refine ⟨h.1, ?_⟩
  rcases h.2 with h2 | ⟨g, cap, cur, hv, hb, rest⟩
  · exact .inl h2
  · exact .inr ⟨g, cap, cur, hv, by omega, rest⟩
theorem ownsRow_setCell_type {w : World} {B : Nat} {e t : TypeId} {z : Nat} {v : Value} {n : Nat} {xs : List Value} (h : w.ownsRow B e z v n xs) {b o : Nat} {cs : Array Value} {m : Nat × Nat} (hb : w.heap[b]? = some (.cells cs t m)) (hne : e ≠ t) (u : Value) :
    (w.setCell ⟨b, o, none⟩ u).ownsRow B e z v n xs := by
  refine ⟨h.1, ?_⟩
  rcases h.2 with h2 | ⟨g, cap, cur, rfl, hbg, hg, rest⟩
  · exact .inl h2
  · refine .inr ⟨g, cap, cur, rfl, hbg, ?_, rest⟩
    rw [Below.heap_setCell _ _ _ _ (by intro e1; have e2 : g = b := e1; rw [e2, hb] at hg; simp at hg; exact hne hg.2.1.symm)]
    exact hg
theorem ownsRow_ne_type {w : World} {B : Nat} {e t : TypeId} {z : Nat} {v : Value} {n : Nat} {xs : List Value} (hown : w.ownsRow B e z v n xs) {b : Nat} {cs : Array Value} {m : Nat × Nat} (hb : w.heap[b]? = some (.cells cs t m)) (hne : e ≠ t) :
    ∀ k, v.ownBlock = some k → B ≤ k ∧ k ≠ b := by
  intro k hk
  refine ⟨(hown.lt k hk).1, fun e1 => ?_⟩
  rcases hown.2 with ⟨h2, _⟩ | ⟨g', cap', cur', h2, _, hg', _⟩
  · rw [h2] at hk; simp [Value.ownBlock] at hk
  · rw [h2] at hk; simp [Value.ownBlock] at hk; rw [hk, e1, hb] at hg'; simp at hg'; exact hne hg'.2.1.symm

theorem cell_two {w : World} {b : Nat} {x y : Value} {t : TypeId} (h : w.heap[b]? = some (.cells #[x, y] t (0, 0))) : w.cell? ⟨b, 0, none⟩ = some x ∧ w.cell? ⟨b, 1, none⟩ = some y ∧ w.frozen? ⟨b, 0, none⟩ = false ∧ w.frozen? ⟨b, 1, none⟩ = false := by
  simp [World.cell?, World.frozen?, h]
theorem block_two_set0 {w : World} {b : Nat} {x y u : Value} {t : TypeId} (h : w.heap[b]? = some (.cells #[x, y] t (0, 0))) : (w.setCell ⟨b, 0, none⟩ u).heap[b]? = some (.cells #[u, y] t (0, 0)) := by
  simp [World.setCell, Array.getElem?_modify, h]
theorem block_two_set1 {w : World} {b : Nat} {x y u : Value} {t : TypeId} (h : w.heap[b]? = some (.cells #[x, y] t (0, 0))) : (w.setCell ⟨b, 1, none⟩ u).heap[b]? = some (.cells #[x, u] t (0, 0)) := by
  simp [World.setCell, Array.getElem?_modify, h]
theorem news_one (w : World) (x : Value) (e : TypeId) : ∀ j u, ([x] : List Value)[j]? = some u → (w.alloc (.cells #[x] e)).cell? ((⟨w.heap.size, 0, none⟩ : Addr).add j) = some u := by
  intro j u h
  match j, h with
  | 0, h => simp at h; subst h; simp [Addr.add]

/-- A slice value whose elements are the bytes l, at least one. -/
def isSrc (w : World) (v : Value) (l : List UInt8) : Prop := ∃ b o c, v = .slice (some ⟨b, o, none⟩) l.length c ∧ ∀ j u, (l.map bv)[j]? = some u → w.cell? ⟨b, o + j, none⟩ = some u
theorem isSrc_of_owns {w : World} {B : Nat} {v : Value} {l : List UInt8} (h : w.ownsRow B 5 1 v l.length (l.map bv)) (hn : 0 < l.length) : isSrc w v l := by
  obtain ⟨g, cap, hv, hc⟩ := ownsRow_some h hn
  exact ⟨g, 0, cap, hv, fun j u hu => by have := hc j u hu; rwa [Addr.add_lit] at this⟩

end Go.Proofs.Ytickdmalkmgkiaa
