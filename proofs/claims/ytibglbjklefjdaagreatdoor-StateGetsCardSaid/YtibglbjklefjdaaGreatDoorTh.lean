/-
  The law StateLater answers true on the abstract machine. No condition but that the arguments are what their types let in.
-/
import Derived.Test.YtibglbjklefjdaaGreatDoorTe
set_option linter.all false
set_option linter.unusedSimpArgs false
set_option linter.unusedVariables false
set_option linter.unusedSectionVars false
namespace Go.AM.Z
open Go Go.AM Go.Proofs
set_option maxRecDepth 100000
def Ext (H G : Heap) : Prop := ∃ Z, G = H ++ Z
theorem Ext.refl (H : Heap) : Ext H H := ⟨[], by simp⟩
theorem Ext.app {H G : Heap} (h : Ext H G) (Z : Heap) : Ext H (G ++ Z) := by
  obtain ⟨Y, rfl⟩ := h
  exact ⟨Y ++ Z, by rw [List.append_assoc]⟩
theorem Ext.a1 (H a : Heap) : Ext H (H ++ a) := (Ext.refl H).app _
theorem Ext.a2 (H a b : Heap) : Ext H (H ++ a ++ b) := ((Ext.refl H).app _).app _
theorem Ext.a3 (H a b c : Heap) : Ext H (H ++ a ++ b ++ c) := (((Ext.refl H).app _).app _).app _
theorem Ext.a4 (H a b c d : Heap) : Ext H (H ++ a ++ b ++ c ++ d) := ((((Ext.refl H).app _).app _).app _).app _
theorem Ext.a5 (H a b c d e : Heap) : Ext H (H ++ a ++ b ++ c ++ d ++ e) := (((((Ext.refl H).app _).app _).app _).app _).app _
theorem Ext.a6 (H a b c d e f : Heap) : Ext H (H ++ a ++ b ++ c ++ d ++ e ++ f) := ((((((Ext.refl H).app _).app _).app _).app _).app _).app _
theorem Ext.a7 (H a b c d e f g : Heap) : Ext H (H ++ a ++ b ++ c ++ d ++ e ++ f ++ g) := (((((((Ext.refl H).app _).app _).app _).app _).app _).app _).app _
theorem Ext.a8 (H a b c d e f g h : Heap) : Ext H (H ++ a ++ b ++ c ++ d ++ e ++ f ++ g ++ h) := ((((((((Ext.refl H).app _).app _).app _).app _).app _).app _).app _).app _
attribute [go_sem] Ext.refl Ext.a1 Ext.a2 Ext.a3 Ext.a4 Ext.a5 Ext.a6 Ext.a7 Ext.a8
end Go.AM.Z
