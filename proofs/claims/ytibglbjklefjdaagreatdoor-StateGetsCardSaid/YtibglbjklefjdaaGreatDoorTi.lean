/-
  The law StateLess answers true on the abstract machine. No condition but that the arguments are what their types let in.
-/
import Derived.Test.YtibglbjklefjdaaGreatDoorTh
set_option linter.all false
set_option linter.unusedSimpArgs false
set_option linter.unusedVariables false
set_option linter.unusedSectionVars false
namespace Go.AM.Z
open Go Go.AM Go.Proofs
set_option maxRecDepth 100000
theorem LC.app {α : Type} {E : α → List Value → Prop} : ∀ {xs ys : List α} {c d : List Value}, LC E xs c → LC E ys d → LC E (xs ++ ys) (c ++ d)
  | [], _, _, _, h, k => by
    rw [LC] at h; subst h; exact k
  | _ :: _, _, _, _, ⟨c', rest, e, k1, k2⟩, k => ⟨c', rest ++ _, by rw [e, List.append_assoc], k1, LC.app k2 k⟩
theorem LC.take {α : Type} {E : α → List Value → Prop} {s : Nat} (hE : ∀ x c, E x c → c.length = s) : ∀ {xs : List α} {cs : List Value} (n : Nat), LC E xs cs → LC E (xs.take n) (cs.take (n * s))
  | [], _, n, h => by rw [LC] at h; subst h; simp [LC]
  | x :: xs, cs, 0, _ => by simp [LC]
  | x :: xs, cs, n + 1, ⟨c, rest, e, k1, k2⟩ => by
    have hl := hE _ _ k1
    rw [List.take_succ_cons, e]
    have : (c ++ rest).take ((n + 1) * s) = c ++ rest.take (n * s) := by
      rw [List.take_append, List.take_of_length_le (by rw [hl, Nat.succ_mul]; omega), hl, show (n + 1) * s - s = n * s by rw [Nat.succ_mul]; omega]
    rw [this]
    exact ⟨c, _, rfl, k1, LC.take hE n k2⟩
attribute [go_sem] List.length_set
end Go.AM.Z
