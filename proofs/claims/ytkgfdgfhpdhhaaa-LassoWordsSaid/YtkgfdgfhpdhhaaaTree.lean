/- Formulas as trees: what lies in the world. Conditions: as each theorem states. -/
import Derived.Test.YtkgfdgfhpdhhaaaWords
namespace Go.Proofs.Ytkgfdgfhpdhhaaa
open Go.ChangeShapes Go.WideShapes Go.RowKit

/-- A formula: its kind, its name, its kids. -/
inductive T where
  | node (k : Int) (nm : List UInt8) (kids : List T)
def T.kind : T → Int | .node k _ _ => k
def T.name : T → List UInt8 | .node _ nm _ => nm
def T.kids : T → List T | .node _ _ l => l

mutual
/-- A formula that lies in the world, its kids in blocks that are so. -/
def IsTree (R : Nat → Prop) (W : World) : T → Value → Prop
  | .node k nm kids, v => ∃ ao cap, v = .agg #[.int .i64 k, .string ⟨nm.toArray⟩, .slice ao kids.length cap] ∧ kids.length ≤ 9223372036854775807 ∧ IsKids R W ao 0 kids
def IsKids (R : Nat → Prop) (W : World) (ao : Option Addr) : Nat → List T → Prop
  | _, [] => True
  | i, t :: ts => (∃ b o k nm sl, ao = some ⟨b, o, none⟩ ∧ R b ∧ W.cell? ⟨b, o + i * 3, none⟩ = some (.int .i64 k) ∧ W.cell? ⟨b, o + i * 3 + 1, none⟩ = some (.string nm) ∧ W.cell? ⟨b, o + i * 3 + 2, none⟩ = some sl ∧ IsTree R W t (.agg #[.int .i64 k, .string nm, sl])) ∧ IsKids R W ao (i + 1) ts
end

mutual
theorem IsTree.mono {R R' : Nat → Prop} {W W' : World} (hc : ∀ a v, R a.block → W.cell? a = some v → W'.cell? a = some v) (hR : ∀ b, R b → R' b) : ∀ (t : T) (v : Value), IsTree R W t v → IsTree R' W' t v
  | .node k nm kids, v, h => by
    rw [IsTree] at h ⊢
    obtain ⟨ao, cap, rfl, hl, hk⟩ := h
    exact ⟨ao, cap, rfl, hl, IsKids.mono hc hR kids ao 0 hk⟩
theorem IsKids.mono {R R' : Nat → Prop} {W W' : World} (hc : ∀ a v, R a.block → W.cell? a = some v → W'.cell? a = some v) (hR : ∀ b, R b → R' b) : ∀ (l : List T) (ao : Option Addr) (i : Nat), IsKids R W ao i l → IsKids R' W' ao i l
  | [], _, _, _ => by rw [IsKids]; trivial
  | t :: ts, ao, i, h => by
    rw [IsKids] at h ⊢
    obtain ⟨⟨b, o, k, nm, sl, hao, hb, c0, c1, c2, ht⟩, hts⟩ := h
    exact ⟨⟨b, o, k, nm, sl, hao, hR b hb, hc _ _ hb c0, hc _ _ hb c1, hc _ _ hb c2, IsTree.mono hc hR t _ ht⟩, IsKids.mono hc hR ts ao (i + 1) hts⟩
end
theorem IsKids.at {R : Nat → Prop} {W : World} {ao : Option Addr} : ∀ {l : List T} {i : Nat} (_ : IsKids R W ao i l) {j : Nat} {t : T}, l[j]? = some t →
    ∃ b o k nm sl, ao = some ⟨b, o, none⟩ ∧ R b ∧ W.cell? ⟨b, o + (i + j) * 3, none⟩ = some (.int .i64 k) ∧ W.cell? ⟨b, o + (i + j) * 3 + 1, none⟩ = some (.string nm) ∧ W.cell? ⟨b, o + (i + j) * 3 + 2, none⟩ = some sl ∧ IsTree R W t (.agg #[.int .i64 k, .string nm, sl])
  | [], _, _, _, _, h => by simp at h
  | t :: ts, i, hk, 0, u, h => by
    rw [IsKids] at hk
    obtain rfl : t = u := by simpa using h
    exact hk.1
  | t :: ts, i, hk, j + 1, u, h => by
    rw [IsKids] at hk
    have := IsKids.at hk.2 (j := j) (t := u) (by simpa using h)
    rw [show i + 1 + j = i + (j + 1) by omega] at this
    exact this
theorem IsKids.mk {R : Nat → Prop} {W : World} {ao : Option Addr} : ∀ (l : List T) (i : Nat), (∀ j t, l[j]? = some t →
    ∃ b o k nm sl, ao = some ⟨b, o, none⟩ ∧ R b ∧ W.cell? ⟨b, o + (i + j) * 3, none⟩ = some (.int .i64 k) ∧ W.cell? ⟨b, o + (i + j) * 3 + 1, none⟩ = some (.string nm) ∧ W.cell? ⟨b, o + (i + j) * 3 + 2, none⟩ = some sl ∧ IsTree R W t (.agg #[.int .i64 k, .string nm, sl])) → IsKids R W ao i l
  | [], _, _ => by rw [IsKids]; trivial
  | t :: ts, i, h => by
    rw [IsKids]
    refine ⟨by have := h 0 t rfl; simpa using this, IsKids.mk ts (i + 1) (fun j u hj => ?_)⟩
    have := h (j + 1) u (by simpa using hj)
    rw [show i + (j + 1) = i + 1 + j by omega] at this
    exact this
theorem IsTree.chg {R : Nat → Prop} {S : Nat → Prop} {W W' : World} {t : T} {v : Value} (h : IsTree R W t v) (hc : Chg S W W') (hs : ∀ b, R b → ¬ S b) : IsTree R W' t v :=
  h.mono (fun _a _ hb hv => hc.cell' hv (hs _ hb)) (fun _ e => e) t v
theorem IsTree.nob {R : Nat → Prop} {W W' : World} {t : T} {v : Value} (h : IsTree R W t v) (hc : Chg Nob W W') : IsTree R W' t v := h.chg hc (fun _ _ e => e)
/-- What a formula's value is made of. -/
theorem IsTree.parts {R : Nat → Prop} {W : World} {t : T} {v : Value} (h : IsTree R W t v) : ∃ ao cap, v = .agg #[.int .i64 t.kind, .string ⟨t.name.toArray⟩, .slice ao t.kids.length cap] ∧ t.kids.length ≤ 9223372036854775807 ∧ IsKids R W ao 0 t.kids := by
  cases t with
  | node k nm kids => rw [IsTree] at h; exact h
theorem IsTree.of_parts {R : Nat → Prop} {W : World} {t : T} {ao : Option Addr} {cap : Nat} (hl : t.kids.length ≤ 9223372036854775807) (h : IsKids R W ao 0 t.kids) : IsTree R W t (.agg #[.int .i64 t.kind, .string ⟨t.name.toArray⟩, .slice ao t.kids.length cap]) := by
  cases t with
  | node k nm kids => rw [IsTree]; exact ⟨ao, cap, rfl, hl, h⟩
/-- A kid: its cells, its value. -/
theorem IsKids.kid {R : Nat → Prop} {W : World} {ao : Option Addr} {l : List T} (h : IsKids R W ao 0 l) {j : Nat} {t : T} (ht : l[j]? = some t) :
    ∃ b o ak cap, ao = some ⟨b, o, none⟩ ∧ R b ∧ W.cell? ⟨b, o + j * 3, none⟩ = some (.int .i64 t.kind) ∧ W.cell? ⟨b, o + j * 3 + 1, none⟩ = some (.string ⟨t.name.toArray⟩) ∧ W.cell? ⟨b, o + j * 3 + 2, none⟩ = some (.slice ak t.kids.length cap) ∧ t.kids.length ≤ 9223372036854775807 ∧ IsKids R W ak 0 t.kids ∧ IsTree R W t (.agg #[.int .i64 t.kind, .string ⟨t.name.toArray⟩, .slice ak t.kids.length cap]) := by
  obtain ⟨b, o, k, nm, sl, hao, hb, c0, c1, c2, hv⟩ := h.at ht
  rw [Nat.zero_add] at c0 c1 c2
  obtain ⟨ak, cap, e, hl, hk⟩ := hv.parts
  simp at e
  obtain ⟨rfl, rfl, rfl⟩ := e
  exact ⟨b, o, ak, cap, hao, hb, c0, c1, c2, hl, hk, hv⟩
end Go.Proofs.Ytkgfdgfhpdhhaaa
