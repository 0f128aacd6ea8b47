/-
  The law StateLater answers true on the abstract machine. No condition but that the arguments are what their types let in.
-/
import Derived.Test.YtibglbjklefjdaaGreatDoorSe
set_option linter.all false
set_option linter.unusedSimpArgs false
set_option linter.unusedVariables false
set_option linter.unusedSectionVars false
/-! The law StateLater. -/
namespace Go.AM.Z
open Go Go.AM Go.Proofs
set_option maxRecDepth 100000
theorem later_ok {x : SubL} {seq more : Int} (h : subMay x seq = true) (hm : 0 ≤ more) : subMay x (seq + more) = true := by
  unfold subMay at h ⊢
  simp only [Bool.and_eq_true, decide_eq_true_eq] at h ⊢
  obtain ⟨⟨⟨⟨⟨⟨⟨h1, h2⟩, h3⟩, h4⟩, h5⟩, h6⟩, h7⟩, h8⟩ := h
  exact ⟨⟨⟨⟨⟨⟨⟨h1, h2⟩, h3⟩, h4⟩, h5⟩, by omega⟩, h7⟩, h8⟩
theorem later_addr (x : SubL) (seq : Int) : subMay { x with addr := [] } seq = false := by
  have e : addrB [] = false := by decide
  unfold subMay
  simp only [e, Bool.false_and]
theorem later_feeds (x : SubL) (seq : Int) : subMay { x with feeds := [] } seq = false := by
  have e : feedsB [] = false := by decide
  unfold subMay
  simp only [e, Bool.false_and, Bool.and_false]
theorem later_zone (x : SubL) (seq : Int) : subMay { x with zone := [] } seq = false := by
  have e : decide ((parseL []).2 = 0) = false := by decide +kernel
  unfold subMay
  simp only [e, Bool.false_and, Bool.and_false]
theorem later_cron (x : SubL) (seq : Int) : subMay { x with cron := [] } seq = false := by
  have e : (cronL []).isSome = false := by decide +kernel
  unfold subMay
  simp only [e, Bool.false_and, Bool.and_false]
def Ext (H G : Heap) : Prop := ∃ Z, G = H ++ Z
theorem Ext.refl (H : Heap) : Ext H H := ⟨[], by simp⟩
theorem Ext.app {H G : Heap} (h : Ext H G) (Z : Heap) : Ext H (G ++ Z) := by
  obtain ⟨Y, rfl⟩ := h
  exact ⟨Y ++ Z, by rw [List.append_assoc]⟩
theorem Ext.a1 (H a : Heap) : Ext H (H ++ a) := (Ext.refl H).app _
theorem Ext.a2 (H a b : Heap) : Ext H (H ++ a ++ b) := ((Ext.refl H).app _).app _
theorem Ext.a3 (H a b c : Heap) : Ext H (H ++ a ++ b ++ c) := (((Ext.refl H).app _).app _).app _
theorem Ext.a4 (H a b c d : Heap) : Ext H (H ++ a ++ b ++ c ++ d) := ((((Ext.refl H).app _).app _).app _).app _
theorem Ext.a5 (H a b c d e : Heap) : Ext H (H ++ a ++ b ++ c ++ d ++ e) := (((((Ext.refl H).app _).app _).app _).app _).app _
theorem Ext.a6 (H a b c d e f : Heap) : Ext H (H ++ a ++ b ++ c ++ d ++ e ++ f) := ((((((Ext.refl H).app _).app _).app _).app _).app _).app _
theorem Ext.a7 (H a b c d e f g : Heap) : Ext H (H ++ a ++ b ++ c ++ d ++ e ++ f ++ g) := (((((((Ext.refl H).app _).app _).app _).app _).app _).app _).app _
theorem Ext.a8 (H a b c d e f g h : Heap) : Ext H (H ++ a ++ b ++ c ++ d ++ e ++ f ++ g ++ h) := ((((((((Ext.refl H).app _).app _).app _).app _).app _).app _).app _).app _
attribute [go_sem] Ext.refl Ext.a1 Ext.a2 Ext.a3 Ext.a4 Ext.a5 Ext.a6 Ext.a7 Ext.a8
theorem Flater {O : Nat → Prop} {H : Heap} {x : SubL} {c : List Value} (hx : SubE O H x c) (hO : ∀ B, O B → B < H.length) (hok : SubOk x) {seq more : Int} (hs : i64 seq) (hm : i64 more) (p : Nat) : F 8 #[.agg ⟨c⟩, .int .i64 seq, .int .i64 more] p H = some (.returned (.bool true), H) := by
  obtain ⟨q, rfl, hq, hqO⟩ := hx
  rw [F, F_quiet (f := 8) (X := X) (cl := cl) rfl rfl rfl Tryz.func8 rfl, Tryz.results8]
  have few : ∀ (Z : Heap) (p : Nat), F 10 #[.agg #[.slice (some ⟨(H ++ Z).length, 0, some 9⟩) 1 9, .slice none 0 0, .int .i64 0, .slice none 0 0, .int .i64 0]] p (H ++ Z ++ [⟨0, 29, (x.cells q).toArray, 0, false, []⟩]) = some (.returned (.bool (fewL ⟨[x], [], 0, [], 0⟩)), H ++ Z ++ [⟨0, 29, (x.cells q).toArray, 0, false, []⟩]) := by
    intro Z p
    have h1 : ListAt SubE 9 (fun B => B < (H ++ Z ++ [(⟨0, 29, (x.cells q).toArray, 0, false, []⟩ : Blk)]).length) (H ++ Z ++ [⟨0, 29, (x.cells q).toArray, 0, false, []⟩]) [x] (.slice (some ⟨(H ++ Z).length, 0, some 9⟩) 1 9) := by
      refine ⟨some ((H ++ Z).length, 0, 9), x.cells q, rfl, ?_, rfl, ?_, x.cells q, [], by simp, ⟨q, rfl, (hq.push Z).push _, fun B hB => ?_⟩, rfl⟩
      · simp only [CAt]
        exact rd_iff.2 ⟨_, at_end rfl, ⟨rfl, by simp, by simp [SubL.cells], by simp [SubL.cells]⟩, by simp [SubL.cells]⟩
      · rintro B ⟨_, _, h⟩; cases h; simp
      · have := hO B (hqO B hB); simp; omega
    exact Ffew (s := ⟨[x], [], 0, [], 0⟩) ⟨_, _, _, rfl, h1, ⟨none, [], rfl, rfl, rfl, (by rintro B ⟨_, _, h⟩; cases h), rfl⟩, ⟨none, [], rfl, rfl, rfl, (by rintro B ⟨_, _, h⟩; cases h), rfl⟩⟩ (fun B hB => hB) p
  have cx : ∀ G, Ext H G → CAt G q (i64s x.feeds) := fun G ⟨Z, h⟩ => by rw [h]; exact hq.push Z
  have sub := fun (G : Heap) (n : Int) (p : Nat) (hz : SubSz x) (hG : Ext H G) => Fstsub (O := fun _ => True) (H := G) (x := x) (cs := x.cells q) ⟨q, rfl, cx G hG, fun _ _ => trivial⟩ hz n p
  have sa := fun (G : Heap) (n : Int) (p : Nat) (hz : SubSz x) (hG : Ext H G) => Fstsub (O := fun _ => True) (H := G) (x := { x with addr := [] }) (cs := SubL.cells { x with addr := [] } q) ⟨q, rfl, cx G hG, fun _ _ => trivial⟩ ⟨by simp, hz.f, hz.z, hz.c⟩ n p
  have sb := fun (G : Heap) (n : Int) (p : Nat) (hz : SubSz x) => Fstsub (O := fun _ => True) (H := G) (x := { x with feeds := [] }) (cs := SubL.cells { x with feeds := [] } none) ⟨none, rfl, rfl, fun _ _ => trivial⟩ ⟨hz.a, by simp, hz.z, hz.c⟩ n p
  have sc := fun (G : Heap) (n : Int) (p : Nat) (hz : SubSz x) (hG : Ext H G) => Fstsub (O := fun _ => True) (H := G) (x := { x with zone := [] }) (cs := SubL.cells { x with zone := [] } q) ⟨q, rfl, cx G hG, fun _ _ => trivial⟩ ⟨hz.a, hz.f, by simp, hz.c⟩ n p
  have sd := fun (G : Heap) (n : Int) (p : Nat) (hz : SubSz x) (hG : Ext H G) => Fstsub (O := fun _ => True) (H := G) (x := { x with cron := [] }) (cs := SubL.cells { x with cron := [] } q) ⟨q, rfl, cx G hG, fun _ _ => trivial⟩ ⟨hz.a, hz.f, hz.z, by simp⟩ n p
  simp only [later_addr, later_feeds, later_zone, later_cron] at sa sb sc sd
  have fe : fewL ⟨[x], [], 0, [], 0⟩ = fewSub x := by simp [fewL]
  rw [fe] at few
  simp only [SubL.cells, List.length_nil, show slv none 0 1 = Value.slice none 0 0 from rfl] at few sub sa sb sc sd ⊢
  have few1 := few [⟨0, 29, #[str x.addr, slv q x.feeds.length 1, str x.zone, str x.cron, i64v x.start, i64v x.cursor, i64v x.no, i64v x.clock, .bool x.off], 0, false, []⟩]
  simp only [List.length_append, List.length_cons, List.length_nil, Nat.zero_add] at few1
  unfold i64 at hs hm
  have ow : ∀ g, okq q x.feeds.length := fun g => hq.okq (s := 1) (by simp) (by omega)
  cases hf : fewSub x with
  | false =>
    rw [hf] at few1
    simp (disch := first | assumption | omega | (simp only [go_sem]; done) | (simp only [go_sem]; omega) | fail) only [go_sem, Fawake, few1]
  | true =>
    rw [hf] at few1
    have hz := (few_sub hf).1
    by_cases b1 : seq < 0
    · simp (disch := first | assumption | omega | (simp only [go_sem]; done) | (simp only [go_sem]; omega) | fail) only [go_sem, Fawake, few1, b1]
    · by_cases b2 : more < 0
      · simp (disch := first | assumption | omega | (simp only [go_sem]; done) | (simp only [go_sem]; omega) | fail) only [go_sem, Fawake, few1, b1, b2]
      · by_cases b3 : 1099511627776 < seq
        · simp (disch := first | assumption | omega | (simp only [go_sem]; done) | (simp only [go_sem]; omega) | fail) only [go_sem, Fawake, few1, b1, b2, b3]
        · by_cases b4 : 1099511627776 < more
          · simp (disch := first | assumption | omega | (simp only [go_sem]; done) | (simp only [go_sem]; omega) | fail) only [go_sem, Fawake, few1, b1, b2, b3, b4]
          · have sub := fun G n p => sub G n p hz
            have sa := fun G n p => sa G n p hz
            have sb := fun G n p => sb G n p hz
            have sc := fun G n p => sc G n p hz
            have sd := fun G n p => sd G n p hz
            have sub1 := fun G p => sub G seq p
            cases hm : subMay x seq with
            | false =>
              simp only [hm] at sub1
              simp (disch := first | assumption | omega | (simp only [go_sem]; done) | (simp only [go_sem]; omega) | fail) only [go_sem, Fawake, few1, b1, b2, b3, b4, sub1]
            | true =>
              have sub2 := fun G p => sub G (seq + more) p
              rw [later_ok hm (by omega)] at sub2
              simp only [hm] at sub1
              simp (disch := first | assumption | omega | (simp only [go_sem]; done) | (simp only [go_sem]; omega) | fail) only [go_sem, Fawake, few1, b1, b2, b3, b4, sub1, sub2, sa, sb, sc, sd]
end Go.AM.Z

