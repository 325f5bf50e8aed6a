/- A region that draws its order, with one call that writes and only quiet operations behind it: the walk behind that call. Conditions: as the theorems state. -/
import Derived.Deep.RegionHeld3
import Derived.Deep.QuietTactic
import Derived.BigQuiet
namespace Go.Proofs.Ytickdmalkmgkiaa
section
variable {P : Program} {md : Region.Mode} {ops : Array Oper} {C S : World → Prop}
theorem wpAnyH_of_quiet {Q : Act → Prop} {Q' : Exit → Act → World → Prop} (hQ : ∀ a w, C w → Q a → Q' .normal a w) (hCS : ∀ w, C w → S w) : ∀ (fuel : Nat) (listed : Array Bool) (a : Act) (w : World), C w →
    wpAnyQ P md ops C Q fuel listed a → wpAnyH P md ops Q' S fuel listed a w
  | 0, _, _, _, hw, h => ⟨h.1, hQ _ _ hw h.2⟩
  | fuel + 1, _, _, _, hw, h => ⟨fun h0 => hQ _ _ hw (h.1 h0), fun i hi => wpOp_of_qOp hw (fun a' w' hw' hh => ⟨hCS _ hw', wpAnyH_of_quiet hQ hCS fuel _ a' w' hw' hh⟩) (h.2 i hi)⟩
theorem held_tail {Q : Exit → Act → World → Prop} {fuel : Nat} {listed : Array Bool} {a : Act} {w : World} (k : Nat) (l : List Oper) (hl : ops.toList.drop k = l) (hf : fuel = l.length)
    (hB : (Region.noSelect ops && Region.lexFrom md ops l.length k listed) = true) (hS : ∀ n, S (w.drewN n))
    (h : wpQuiet P ops (fun w' => ∃ n, w' = w.drewN n) (fun a' => ∀ w', (∃ n, w' = w.drewN n) → Q .normal a' w') l a) : wpAnyH P md ops Q S fuel listed a w := by
  subst hf
  simp only [Bool.and_eq_true] at hB
  refine wpAnyH_of_quiet (C := fun w' => ∃ n, w' = w.drewN n) (Q := fun a' => ∀ w', (∃ n, w' = w.drewN n) → Q .normal a' w') (fun _ w' hw' h => h w' hw') (fun w' ⟨n, hn⟩ => hn ▸ hS n) _ _ _ _ ⟨0, rfl⟩ ?_
  refine wpAnyQ_lex hB.1 l k listed a (fun j => ?_) hB.2 h
  rw [← hl, List.getElem?_drop, Array.getElem?_toList]
end
end Go.Proofs.Ytickdmalkmgkiaa
