/-
  Two laws, StateParts and StateBack, answer true on the abstract machine. No condition but that the arguments are what their types let in.
-/
import Derived.Test.YtibglbjklefjdaaGreatDoorTd
set_option linter.all false
set_option linter.unusedSimpArgs false
set_option linter.unusedVariables false
set_option linter.unusedSectionVars false
namespace Go.AM.Z
open Go Go.AM Go.Proofs
set_option maxRecDepth 100000
theorem Get_none {q : Q} {l : List UInt8} {p : Nat} {H : Heap} (hq : CAt H q (u8s l)) (hp : p ≤ H.length) (hb : l.length ≤ 4294967296) (h : getL l = none) : ∃ Z, F 17 #[slv q l.length 1] p H = some (.returned (.tuple #[.agg #[.slice none 0 0, .slice none 0 0, i64v 0, .slice none 0 0, i64v 0], i64v 2]), H ++ Z) := by
  obtain ⟨v, e, H', e1, e2, e3, e4⟩ := FGet hq (CAt.lt hq) hp hb
  obtain ⟨Z, rfl⟩ := Pr.add (H := H) (H' := H') ⟨e2, e3⟩
  rcases e4 with ⟨s, h1, _⟩ | ⟨_, rfl, rfl⟩
  · rw [h] at h1; cases h1
  · exact ⟨Z, e1⟩
theorem Get_some {q : Q} {l : List UInt8} {p : Nat} {H : Heap} {s : StateL} (hq : CAt H q (u8s l)) (hp : p ≤ H.length) (hb : l.length ≤ 4294967296) (h : getL l = some s) : ∃ v Z, F 17 #[slv q l.length 1] p H = some (.returned (.tuple #[v, i64v 0]), H ++ Z) ∧ StateAt (fun B => H.length ≤ B ∧ B < (H ++ Z).length) (H ++ Z) s v := by
  obtain ⟨v, e, H', e1, e2, e3, e4⟩ := FGet hq (CAt.lt hq) hp hb
  obtain ⟨Z, rfl⟩ := Pr.add (H := H) (H' := H') ⟨e2, e3⟩
  rcases e4 with ⟨s', h1, rfl, h2⟩ | ⟨h1, _⟩
  · rw [h] at h1; cases h1
    exact ⟨v, Z, e1, h2⟩
  · rw [h] at h1; cases h1
theorem StateAt.any {O : Nat → Prop} {H : Heap} {s : StateL} {v : Value} (h : StateAt O H s v) (hO : ∀ B, O B → B < H.length) (Z : Heap) : StateAt (fun B => B < (H ++ Z).length) (H ++ Z) s v :=
  h.move fun B hB => ⟨by have := hO B hB; simp; omega, List.getElem?_append_left (hO B hB)⟩
end Go.AM.Z
