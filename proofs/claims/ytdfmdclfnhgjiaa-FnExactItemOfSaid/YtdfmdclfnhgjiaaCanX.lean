/- What comes in: numbers for blocks that may be read and no more.
   Conditions: none of the numbers is owned. -/
import Derived.Test.YtdfmdclfnhgjiaaCanU
set_option linter.unusedVariables false
set_option linter.unusedSimpArgs false
namespace Go.Proofs.Ytdfmdclfnhgjiaa.Can
open Go

theorem HR.look {ι : Map} {h : CH} {w : World} (g : HR ι h w) (hno : ∀ o, (h.at_ o).own = false) {o : CO} (ho : o.own = false) {i : Info} (hO : OR (ι.put h.size i) i w o) (hlt : i.blk < w.heap.size) : HR (ι.put h.size i) (h.push o) w := by
  have hn : ι h.size = Option.none := g.none
  have old : ∀ q j, ι q = some j → q ≠ h.size := fun q j e hq => by rw [hq, hn] at e; cases e
  have own' : ∀ q, ((h.push o).at_ q).own = false := fun q => by
    by_cases hq : q = h.size
    · subst hq; rw [push_new]; exact ho
    · simp only [CH.push, if_neg hq]; exact hno q
  refine ⟨fun q j e => ?_, fun q q' j j' hne e e' hw hl => ?_, fun q j e => ?_, fun q j e => ?_⟩
  · by_cases hq : q = h.size
    · subst hq
      rw [Map.put_self] at e
      cases e
      rw [push_new]; exact hO
    · rw [Map.put_ne _ _ hq] at e
      have := (g.obj q j e).mono (Map.le_put (i := i) hn) (fun _ => rfl)
      simpa only [CH.push, if_neg hq] using this
  · rw [own' q] at hw; cases hw
  · by_cases hq : q = h.size
    · subst hq; exact Nat.lt_succ_self _
    · rw [Map.put_ne _ _ hq] at e
      exact Nat.lt_succ_of_lt (g.dom q j e)
  · by_cases hq : q = h.size
    · subst hq
      rw [Map.put_self] at e
      cases e
      exact hlt
    · rw [Map.put_ne _ _ hq] at e
      exact g.lt q j e

end Go.Proofs.Ytdfmdclfnhgjiaa.Can
