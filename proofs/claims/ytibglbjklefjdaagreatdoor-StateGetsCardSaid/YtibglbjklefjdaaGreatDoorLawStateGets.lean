/-
  The tied card of the law StateGets: for every input that the card admits the law answers true. Conditions: those of the given row.
-/
import Derived.Test.YtibglbjklefjdaaGreatDoorTr
import Derived.Test.YtibglbjklefjdaaGreatDoorTw
import Derived.SevenTiedAt
import Derived.Test.YtibglbjklefjdaaGreatDoorCards
set_option linter.all false
set_option linter.unusedSimpArgs false
set_option linter.unusedVariables false
set_option linter.unusedSectionVars false
namespace Go.Proofs.YtibglbjklefjdaaGreatDoor
open Go.ChangeShapes Go.WideShapes Go.ChangeAt Go.RowKit Go.Lib
open Go.AM Go.AM.Z
set_option maxRecDepth 1000000
theorem stateGets_witness (os : Os) {H : Type} (enc : TypeId × Value → H) :
    (OpenSpec.ofChange Rows.stateGetsSpec).preRow enc Tryz.prog Tryz.f4 Rows.stateGetsRow.domain false Rows.stateGetsRow.laid ((laidWorld os).forCall (fun _ _ => 0) ⟨#[], #[.slice none 0 0], []⟩).memory #[.slice none 0 0] := by
  have hw : (DataW.whole enc Tryz.prog ((laidWorld os).forCall (fun _ _ => 0) ⟨#[], #[.slice none 0 0], []⟩).memory Tryz.f4.params.toList (OpenSpec.ofChange Rows.stateGetsSpec).vars false #[.slice none 0 0].toList 8).map (fun x => (x.1, x.2.1)) =
      some ([.nil], []) := by kernel_rfl
  obtain ⟨⟨x1, x2, x3⟩, hx, hx1⟩ := Option.map_eq_some_iff.1 hw
  simp only [Prod.mk.injEq] at hx1
  obtain ⟨rfl, rfl⟩ := hx1
  exact OpenSpec.preRow_of_cond 8 hx (by kernel_rfl) (fun k hk => by cases hk) (by kernel_rfl) (laid_met os _)
theorem stateGets_lifted (os : Os) (started : os.Started) (H : Type) (enc : TypeId × Value → H) (F0 : Stop.Interp) :
    ReturnsInHanded {} Tryz.checked os 4 .any ((OpenSpec.ofChange Rows.stateGetsSpec).preRow enc Tryz.prog Tryz.f4 Rows.stateGetsRow.domain false Rows.stateGetsRow.laid) (((OpenSpec.ofChange Rows.stateGetsSpec).at F0).post enc Tryz.prog Tryz.f4 false true false false) := by
  refine returnsInHanded_of_row (C := Tryz.checked) (s := OpenSpec.ofChange Rows.stateGetsSpec) own started (by kernel_rfl) Tryz.func4
    (witness_row_atRef (enc := enc) (C := Tryz.checked) false (laidWorld os) #[.slice none 0 0] rfl (by kernel_rfl) (by kernel_rfl) (by kernel_rfl) (stateGets_witness os enc)) ?_
  intro W base args ds gs before hval0 hW _ _ _ hL hSh _
  have hval : ∀ (j : Nat) t v, Tryz.f4.params[j]? = some t → args[j]? = some v → Value.okWide Tryz.prog W .any base t v := hval0
  have hW' := hW
  obtain ⟨p, q, hA0, hV0, rfl, _, _⟩ := hW
  have hA : DataW.TrodAll enc Tryz.prog W 0 (fun _ => true) true Tryz.f4.params.toList args.toList ds p := hA0
  rw [Tryz.params4] at hA hval
  have hTb : Tabs W := tabs_of_laid hL hSh
  have hHas := tabs_has hTb
  obtain ⟨v0, vs0, d0, ds0, p0, q0, hargs, rfl, rfl, h0, r0'⟩ := trodAll_cons hA
  obtain ⟨rfl, rfl, rfl⟩ := trodAll_nil r0'
  obtain rfl : args = #[v0] := by cases args; simp_all
  obtain ⟨rfl, rfl⟩ := trodVars_none hV0
  have lt0 : ∀ x ∈ p0, x.block < W.heap.size := by obtain ⟨m, hm⟩ := h0; exact DataW.trod_lt m _ _ _ hm
  obtain ⟨sa0, sl0, sc0, rfl⟩ := okWide_slice Tryz.underlying33 (hval 0 33 v0 rfl rfl)
  obtain ⟨m0, t0⟩ := id h0
  obtain ⟨x0, k0, o0⟩ := bytes_at (enc := enc) hHas t0
  clear hA0 hV0 hval0
  simp only [List.append_nil] at hW'
  obtain ⟨M, Z, xs, _, hH, hv, _, hE⟩ := (o0 : Opn W _ _ [.slice sa0 sl0 sc0]) noMp [] (HR.empty (Below.refl _ _) (Nat.le_refl _))
  simp only [List.nil_append] at hH hE
  obtain ⟨w0, rfl, q0', cc0, rfl, hc0, _, _, hl0⟩ := hE
  have hv0 := hv
  have hv0 : VRL M [slv q0' x0.length 1] [.slice sa0 sl0 sc0] := hv0
  rw [vrl_cons2] at hv0
  obtain rfl := LC_u8 hl0
  refine (law_call (f := 4) (args := #[slv q0' x0.length 1]) hTb hH (vrl_cons2.2 ⟨hv0.1, (vrl_nil.2 rfl)⟩) (Fgets hc0 0) rfl).mono fun e W' ⟨he, bel⟩ => ?_
  subst he
  exact ⟨_, rfl, _, _, _, [], _, [], hW', trodAll_mk1 (shut_bool Tryz.underlying4 true), (trodAll_cons_mk (Below.trod laidOut (by kernel_rfl) (of_decide_eq_true (by kernel_rfl)) h0 bel lt0) trodAll_mk0), rfl, bel.frame _, fun h => by cases h⟩
theorem stateGets_row : Rows.StateGetsSaid :=
  OpenClaim.holds_of_cond 4 Tryz.f4 rfl rfl rfl rfl rfl rfl rfl ⟨rfl, rfl, rfl, rfl, rfl⟩ rfl rfl rfl rfl rfl (by kernel_rfl) Tryz.func4 (by kernel_rfl)
    (of_decide_eq_true (by kernel_rfl)) (by unfold Func.isWrapper; first | (rw [if_pos (by decide +kernel)]; kernel_rfl) | (rw [if_neg (by decide +kernel)]; exact ⟨rfl, rfl⟩))
    (fun os started H enc _ F0 => by rw [OpenClaim.pre_eq_preRow]; exact stateGets_lifted os started H enc F0)
#print axioms stateGets_row
end Go.Proofs.YtibglbjklefjdaaGreatDoor

namespace Go.Proofs.YtibglbjklefjdaaGreatDoor
open Go
set_option maxRecDepth 1000000
theorem stateGets_card : Rows.StateGetsCardSaid :=
  Claim7.holds_tied_plain_at .later [] [.data, .data, .data, .data, .sentinel, .sentinel, .pinned] true (true, "f7d919a2b6a117aa4af3eda66514ae009d551fc92b79a179c0979ffc6c12fa51") true
    stateGets_row (fun _ h => by cases h) (by kernel_rfl) (fun _ h => by cases h) stateGets_row_tie rfl ⟨rfl, rfl⟩ (by kernel_rfl) rfl
    (fun f fn hf hfn => by
      obtain rfl : f = 4 := Option.some.inj ((show Tryz.prog.funcNamed "mailcoach/mailcoachlaw21.StateGets" = some 4 by kernel_rfl).symm.trans hf) |>.symm
      obtain rfl : fn = Tryz.f4 := (Option.some.inj (Tryz.func4.symm.trans hfn)).symm
      exact ⟨by kernel_rfl, fun j t ht => by
        rw [Tryz.params4] at ht
        have hm : t ∈ [33] := by
          have := Array.mem_of_getElem? ht
          simpa using this
        simp only [List.mem_cons, List.mem_nil_iff, or_false] at hm
        rcases hm with rfl
        all_goals first | exact (show Tryz.prog.wantsStandIn 33 = false by kernel_rfl)⟩)
    (by kernel_rfl)
#print axioms stateGets_card
end Go.Proofs.YtibglbjklefjdaaGreatDoor
