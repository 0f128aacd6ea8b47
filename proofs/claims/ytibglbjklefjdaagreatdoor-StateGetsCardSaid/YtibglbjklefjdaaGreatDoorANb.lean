/-
  The abstract machine's operations on memory are simulated by the model. No condition.
-/
import Derived.Test.YtibglbjklefjdaaGreatDoorANa
set_option linter.all false
set_option linter.unusedSimpArgs false
set_option linter.unusedVariables false
set_option linter.unusedSectionVars false
namespace Go.AM
open Go
open Go.RowKit (Below)
variable {P : Program} {M : Mp} {H : Heap} {w : World} {N0 : Nat} {W0 : World}
theorem add_none (b o n : Nat) : (⟨b, o, none⟩ : Addr).add n = ⟨b, o + n, none⟩ := by unfold Addr.add; split <;> simp_all
theorem run_of_pure {α : Type} {s : Sem α} {v : α} (h : pureRun P s = some v) : s.run P w = .ok v w := pureRun_run w h
theorem run_u {t : TypeId} {d : TypeDesc} (h : P.underlying t = some d) : (underlying t).run P w = .ok d w := run_of_pure (by rw [pureRun_underlying, h])
theorem run_sz {t : TypeId} {s : Nat} (h : sz P t = some s) : (sizeOf t).run P w = .ok s w := run_of_pure (by rw [pureRun_sizeOf, h])
theorem run_agg {t : TypeId} {d : TypeDesc} (h : P.underlying t = some d) : (isAgg t).run P w = .ok (isAggD P t) w := run_of_pure (by rw [pureRun_isAgg, h]; rfl)
theorem fieldA_sim {s : TypeId} {x y v : Value} {f : Nat} (h : fieldA P s x f = some v) (hx : VR M x y) : ∃ v', (Instr.fieldAt s y f).run P w = .ok v' w ∧ VR M v v' := by
  unfold fieldA at h
  split at h
  · rename_i A off n fs hu
    obtain ⟨b, base, ext, hm, rfl⟩ := vr_ptr.1 hx
    cases hf : fs[f]? with
    | none => rw [hf] at h; cases h
    | some fd =>
      rw [hf] at h
      simp only [Option.bind_some] at h
      split at h
      · cases h
      · rename_i hs
        cases h
        cases hsz : sz P fd.type with
        | none => exact absurd (.inr hsz) hs
        | some k =>
          have hk : k ≠ 0 := fun e => hs (.inl (by rw [hsz, e]))
          refine ⟨.pointer (some ⟨b, base + off + fd.offset, none⟩), ?_, vr_ptr.2 ⟨b, base, ext, hm, by rw [Nat.add_assoc]⟩⟩
          unfold Instr.fieldAt
          simp only [Sem.run_bind, run_u hu, Result.andThen_ok, hf, Instr.sureAddr, Sem.run_pure]
          unfold fieldPlace
          simp only [Sem.run_bind, run_sz hsz, Result.andThen_ok, if_neg hk, Sem.run_ite, Sem.run_pure, add_none]
  · cases h
theorem idxA_sim {t : TypeId} {x y i j v : Value} (h : idxA P t x i = some v) (hx : VR M x y) (hi : VR M i j) : ∃ v', (Instr.indexAt t y j).run P w = .ok v' w ∧ VR M v v' := by
  unfold idxA at h
  split at h
  · rename_i k n e A off m len s' hu
    rw [(vr_flat rfl).1 hi]
    obtain ⟨b, base, ext, o', cap, hm, rfl, hl, ho⟩ := vr_sli.1 hx
    cases hs : sz P e with
    | none => rw [hs] at h; cases h
    | some s =>
      rw [hs] at h
      simp only [Option.bind_some] at h
      split at h
      · rename_i hc
        obtain ⟨h1, h2, h3⟩ := hc
        cases h
        have ho' : o' = ⟨b, base + off, none⟩ := by
          rcases ho with ho | ho
          · exact ho.1
          · omega
        subst ho'
        refine ⟨.pointer (some ⟨b, base + off + n.toNat * s, none⟩), ?_, vr_ptr.2 ⟨b, base, ext, hm, by rw [Nat.add_assoc]⟩⟩
        unfold Instr.indexAt
        simp only [asIntOf, Sem.run_bind, Sem.run_pure, Result.andThen_ok, run_u hu, if_pos (And.intro h1 h2), Sem.run_ite, run_sz hs, add_none]
      · cases h
  · rename_i k n len e A off m hu
    rw [(vr_flat rfl).1 hi]
    obtain ⟨b, base, ext, hm, rfl⟩ := vr_ptr.1 hx
    cases hs : sz P e with
    | none => rw [hs] at h; cases h
    | some s =>
      rw [hs] at h
      simp only [Option.bind_some] at h
      split at h
      · rename_i hc
        cases h
        refine ⟨.pointer (some ⟨b, base + off + n.toNat * s, none⟩), ?_, vr_ptr.2 ⟨b, base, ext, hm, by rw [Nat.add_assoc]⟩⟩
        unfold Instr.indexAt
        simp only [asIntOf, Sem.run_bind, Sem.run_pure, Result.andThen_ok, run_u hu, Instr.sureAddr, if_pos hc, Sem.run_ite, run_sz hs, add_none]
      · cases h
  · cases h
theorem bound_run {v : Value} {k : IntKind} {n : Int} {y : Nat} {c : BoundsCode} (hv : v = .int k n) (h : 0 ≤ n ∧ n ≤ y) : (Instr.sliceBound v y c).run P w = .ok n.toNat w := by
  subst hv
  unfold Instr.sliceBound
  simp only [asIntOf, Sem.run_bind, Sem.run_pure, Result.andThen_ok, if_pos h, Sem.run_ite]
def OV (M : Mp) (a c : Option Value) : Prop := match a, c with
  | none, none => True
  | some x, some y => VR M x y
  | _, _ => False
def loS (h : Nat) (c : BoundsCode) : Option Value → Sem Nat
  | some v => Instr.sliceBound v h c
  | none => pure 0
def capS (isS : Bool) (cap : Nat) : Option Value → Sem Nat
  | some v => Instr.sliceBound v cap (if isS then .slice3Acap else .slice3Alen)
  | none => pure cap
def hiS (isS : Bool) (len m : Nat) : Option Value → Option Value → Sem Nat
  | some v, some _ => Instr.sliceBound v m .slice3B
  | some v, none => Instr.sliceBound v m (if isS then .sliceAcap else .sliceAlen)
  | none, none => pure len
  | none, some _ => stuck "Slice: max without high"
theorem low_some {lo lo' : Option Value} {l h : Nat} (hl : lowV lo = some l) (hr : OV M lo lo') (hle : l ≤ h) (c : BoundsCode) : (loS h c lo').run P w = .ok l w := by
  cases lo with
  | none => cases lo' with
    | none => simp only [lowV] at hl; cases hl; rfl
    | some _ => exact hr.elim
  | some x => cases lo' with
    | none => exact hr.elim
    | some y =>
      have hr' : VR M x y := hr
      simp only [lowV] at hl
      cases x <;> simp at hl
      rename_i k n
      cases (vr_flat rfl).1 hr'
      obtain ⟨h1, h2⟩ := hl
      unfold loS
      rw [bound_run rfl ⟨h1, by omega⟩, h2]
theorem high_some {hi hi' : Option Value} {h N : Nat} {N' : Nat} (hh : highV hi N = some h) (hr : OV M hi hi') (hN : N ≤ N') (c : BoundsCode) :
    h ≤ N ∧ (∀ v, hi' = some v → (Instr.sliceBound v N' c).run P w = .ok h w) ∧ (hi' = none → h = N) := by
  cases hi with
  | none => cases hi' with
    | none => simp only [highV] at hh; cases hh; exact ⟨Nat.le_refl _, fun v e => (by cases e), fun _ => rfl⟩
    | some _ => exact hr.elim
  | some x => cases hi' with
    | none => exact hr.elim
    | some y =>
      have hr' : VR M x y := hr
      simp only [highV] at hh
      cases x <;> simp at hh
      rename_i k n
      cases (vr_flat rfl).1 hr'
      obtain ⟨h1, h2⟩ := hh
      refine ⟨by omega, ?_, fun e => by cases e⟩
      intro v e
      cases e
      rw [bound_run rfl ⟨h1.1, by omega⟩, h2]
theorem HR.nle (h : HR N0 W0 M H w) {A n b base ext : Nat} (e : M A n = some (b, base, ext)) : n ≤ ext := by
  obtain ⟨B, hB, he⟩ := h.ent _ _ _ _ _ e
  have := he.kk
  by_cases h0 : B.k = 0
  · exact (he.c h0).next
  · by_cases h1 : B.k = 1
    · have := (he.m h1).1; omega
    · have := (he.i (by omega)).1; omega
theorem bounds_run {isS : Bool} {len cap l h m : Nat} {lo hi mx : Option Value} (hm : (capS isS cap mx).run P w = .ok m w) (hh : (hiS isS len m hi mx).run P w = .ok h w)
    (hl : ∀ c, (loS h c lo).run P w = .ok l w) : (Instr.sliceBounds isS len cap lo hi mx).run P w = .ok (l, h, m) w := by
  unfold Instr.sliceBounds
  cases mx <;> cases hi <;> cases lo <;> simp only [capS, hiS, loS] at hm hh hl ⊢ <;> simp only [Sem.run_bind, hm, hh, hl, Result.andThen_ok, Sem.run_pure] <;> simp_all
def NLe (M : Mp) : Prop := ∀ A n b base ext, M A n = some (b, base, ext) → n ≤ ext
theorem slice_sim (hE : NLe M) {t : TypeId} {x y v : Value} {lo hi mx lo' hi' mx' : Option Value} (h : sliceV P t x lo hi mx = some v) (hx : VR M x y) (hlo : OV M lo lo') (hhi : OV M hi hi') (hmx : OV M mx mx') :
    ∃ v', (Instr.sliceAt t y lo' hi' mx').run P w = .ok v' w ∧ VR M v v' := by
  have none_of : ∀ {a c : Option Value}, OV M a c → a.isNone = true → c = none := by
    intro a c hr ha
    cases a with
    | none => cases c with
      | none => rfl
      | some _ => exact hr.elim
    | some _ => simp at ha
  unfold sliceV at h
  split at h
  · rename_i s
    rw [(vr_flat rfl).1 hx]
    split at h
    · rename_i hu
      split at h
      · rename_i hmn
        have hmx' := none_of hmx hmn
        subst hmx'
        cases e1 : highV hi s.size with
        | none => rw [e1] at h; cases h
        | some hh =>
          rw [e1] at h
          simp only [Option.bind_some] at h
          cases e2 : lowV lo with
          | none => rw [e2] at h; cases h
          | some l =>
            rw [e2] at h
            simp only [Option.bind_some] at h
            split at h
            · rename_i hle
              cases h
              refine ⟨.string (s.extract l hh), ?_, flat_cases rfl⟩
              obtain ⟨g1, g2, g3⟩ := high_some (P := P) (w := w) e1 hhi (Nat.le_refl _) .sliceAlen
              unfold Instr.sliceAt
              simp only [Sem.run_bind, run_u hu, Result.andThen_ok]
              unfold Instr.slice
              simp only [Sem.run_bind, run_u hu, Result.andThen_ok, Option.isSome_none, Bool.false_eq_true, if_false]
              rw [bounds_run (l := l) (h := hh) (m := s.size) rfl ?_ (fun c => low_some e2 hlo hle c)]
              · rfl
              · cases hi' with
                | none => rw [g3 rfl]; rfl
                | some v => exact g2 v rfl
            · cases h
      · cases h
    · cases h
  · split at h
    · rename_i e hu
      cases hs : sz P e with
      | none => rw [hs] at h; cases h
      | some s =>
      rw [hs] at h
      simp only [Option.bind_some] at h
      split at h
      · rename_i hmn
        have hmx' := none_of hmx hmn
        subst hmx'
        cases e1 : highV hi 0 with
        | none => rw [e1] at h; cases h
        | some hh =>
          rw [e1] at h
          simp only [Option.bind_some] at h
          cases e2 : lowV lo with
          | none => rw [e2] at h; cases h
          | some l =>
            rw [e2] at h
            simp only [Option.bind_some] at h
            split at h
            · rename_i hl0
              subst hl0
              cases h
              refine ⟨.slice none 0 0, ?_, flat_cases rfl⟩
              obtain ⟨g1, g2, g3⟩ := high_some (P := P) (w := w) e1 hhi (Nat.le_refl _) .sliceAcap
              rw [(vr_flat rfl).1 hx]
              unfold Instr.sliceAt
              simp only [Sem.run_bind, run_u hu, Result.andThen_ok]
              unfold Instr.slice
              simp only [Sem.run_bind, run_u hu, Result.andThen_ok]
              rw [bounds_run (isS := true) (l := 0) (h := 0) (m := 0) rfl ?_ (fun c => low_some e2 hlo (Nat.le_refl _) c)]
              · simp [run_sz hs]
              · cases hi' with
                | none => rfl
                | some v => have := g2 v rfl; rw [show hh = 0 by omega] at this; exact this
            · cases h
      · cases h
    · cases h
  · rename_i A off n len s'
    obtain ⟨b, base, ext, o', cap, hm, rfl, hlc, ho⟩ := vr_sli.1 hx
    split at h
    · rename_i e hu
      cases hs : sz P e with
      | none => rw [hs] at h; cases h
      | some s =>
        rw [hs] at h
        simp only [Option.bind_some] at h
        cases e0 : highV mx len with
        | none => rw [e0] at h; cases h
        | some m =>
          rw [e0] at h
          simp only [Option.bind_some] at h
          cases e1 : highV hi m with
          | none => rw [e1] at h; cases h
          | some hh =>
            rw [e1] at h
            simp only [Option.bind_some] at h
            cases e2 : lowV lo with
            | none => rw [e2] at h; cases h
            | some l =>
              rw [e2] at h
              simp only [Option.bind_some] at h
              split at h
              · rename_i hle
                obtain ⟨hle, rfl, hmh⟩ := hle
                cases h
                obtain ⟨k1, k2, k3⟩ := high_some (P := P) (w := w) e0 hmx hlc .slice3Acap
                -- the concrete bound of the capacity
                obtain ⟨m', hm', hmm⟩ : ∃ m', (capS true cap mx').run P w = .ok m' w ∧ (m ≤ m' ∧ m' ≤ cap) := by
                  cases mx' with
                  | none => exact ⟨cap, rfl, by have := k3 rfl; omega, Nat.le_refl _⟩
                  | some v => exact ⟨m, k2 v rfl, Nat.le_refl _, by omega⟩
                have hsome : mx'.isSome = true → m' = m := by
                  intro hs
                  cases mx' with
                  | none => cases hs
                  | some v => have := k2 v rfl; simp only [capS, if_true] at hm'; rw [this] at hm'; cases hm'; rfl
                have hh' : (hiS true len m' hi' mx').run P w = .ok hh w := by
                  cases hi' with
                  | none => cases mx' with
                    | none =>
                      obtain ⟨_, _, g3⟩ := high_some (P := P) (w := w) e1 hhi hmm.1 .sliceAcap
                      rw [g3 rfl, k3 rfl]; rfl
                    | some v =>
                      exfalso
                      have h1 : mx.isSome = true := by cases mx with
                        | none => exact hmx.elim
                        | some _ => rfl
                      have h2 := hmh h1
                      cases hi with
                      | none => cases h2
                      | some _ => exact hhi.elim
                  | some v => cases mx' with
                    | none => exact (high_some (P := P) (w := w) e1 hhi hmm.1 _).2.1 v rfl
                    | some u => exact (high_some (P := P) (w := w) e1 hhi hmm.1 _).2.1 v rfl
                have g1 := (high_some (P := P) (w := w) e1 hhi hmm.1 .sliceAcap).1
                refine ⟨.slice (if m' = l then some o' else (some o' : Option Addr).map (·.add (l * s'))) (hh - l) (m' - l), ?_, ?_⟩
                · unfold Instr.sliceAt
                  simp only [Sem.run_bind, run_u hu, Result.andThen_ok]
                  unfold Instr.slice
                  simp only [Sem.run_bind, run_u hu, Result.andThen_ok]
                  rw [bounds_run (isS := true) hm' hh' (fun c => low_some e2 hlo hle c)]
                  simp only [Result.andThen_ok, run_sz hs, Sem.run_pure]
                · refine vr_sli.2 ⟨b, base, ext, (if m' = l then o' else o'.add (l * s')), m' - l, hm, ?_, by omega, ?_⟩
                  · split
                    · rfl
                    · rfl
                  · by_cases hml : m' = l
                    · exact .inr (by omega)
                    · rcases ho with ⟨ho1, ho2⟩ | ho
                      · refine .inl ⟨by rw [if_neg hml, ho1, add_none, Nat.add_assoc], ?_⟩
                        have h3 : l * s' + (m' - l) * s' = m' * s' := by rw [← Nat.add_mul]; congr 1; omega
                        have h4 : m' * s' ≤ cap * s' := Nat.mul_le_mul_right _ hmm.2
                        omega
                      · exfalso; omega
              · cases h
    · cases h
  · rename_i A off n
    obtain ⟨b, base, ext, hm, rfl⟩ := vr_ptr.1 hx
    split at h
    · rename_i N e hu
      cases hs : sz P e with
      | none => rw [hs] at h; cases h
      | some s =>
        rw [hs] at h
        simp only [Option.bind_some] at h
        cases e1 : highV hi N with
        | none => rw [e1] at h; cases h
        | some hh =>
          rw [e1] at h
          simp only [Option.bind_some] at h
          cases e2 : lowV lo with
          | none => rw [e2] at h; cases h
          | some l =>
            rw [e2] at h
            simp only [Option.bind_some] at h
            split at h
            · rename_i hle
              obtain ⟨hle, hmn, hN⟩ := hle
              cases h
              have hmx' := none_of hmx hmn
              subst hmx'
              obtain ⟨g1, g2, g3⟩ := high_some (P := P) (w := w) e1 hhi (Nat.le_refl _) .sliceAlen
              refine ⟨.slice (some (if N = l then ⟨b, base + off, none⟩ else (⟨b, base + off, none⟩ : Addr).add (l * s))) (hh - l) (N - l), ?_, ?_⟩
              · unfold Instr.sliceAt
                simp only [Sem.run_bind, run_u hu, Result.andThen_ok, Instr.sureAddr, Sem.run_pure]
                rw [bounds_run (isS := false) (l := l) (h := hh) (m := N) rfl ?_ (fun c => low_some e2 hlo hle c)]
                · simp only [Result.andThen_ok, run_sz hs]
                · cases hi' with
                  | none => rw [g3 rfl]; rfl
                  | some v => exact g2 v rfl
              · refine vr_sli.2 ⟨b, base, ext, (if N = l then ⟨b, base + off, none⟩ else (⟨b, base + off, none⟩ : Addr).add (l * s)), N - l, hm, rfl, by omega, ?_⟩
                · by_cases hml : N = l
                  · exact .inr (by omega)
                  · refine .inl ⟨by rw [if_neg hml, add_none, Nat.add_assoc], ?_⟩
                    have h3 : l * s + (N - l) * s = N * s := by rw [← Nat.add_mul]; congr 1; omega
                    have := hE _ _ _ _ _ hm
                    omega
            · cases h
    · cases h
  · cases h
end Go.AM

namespace Go.AM
open Go
open Go.RowKit (Below)
variable {P : Program} {M : Mp} {H H' : Heap} {w : World} {N0 : Nat} {W0 : World}
def SimV (N0 : Nat) (W0 : World) (P : Program) (M : Mp) (H : Heap) (w : World) (s : Sem Value) (q : Prop) (v : Value) (H' : Heap) : Prop :=
  ∃ w' M' v', s.run P w = .ok v' w' ∧ Mle M M' ∧ HR N0 W0 M' H' w' ∧ VR M' v v' ∧ (q → Ext H M M' w w')
def SimU (prot : Nat) (N0 : Nat) (W0 : World) (P : Program) (M : Mp) (w : World) (s : Sem Unit) (H' : Heap) : Prop :=
  ∃ w' M', s.run P w = .ok () w' ∧ Mle M M' ∧ HR N0 W0 M' H' w' ∧ Kp prot M M' w w'
def SimK (prot : Nat) (N0 : Nat) (W0 : World) (P : Program) (M : Mp) (H : Heap) (w : World) (s : Sem Value) (v : Value) (H' : Heap) : Prop :=
  ∃ w' M' v', s.run P w = .ok v' w' ∧ Mle M M' ∧ HR N0 W0 M' H' w' ∧ VR M' v v' ∧ (prot ≤ H.length → Kp prot M M' w w')
theorem SimV.pure (hH : HR N0 W0 M H w) {s : Sem Value} {q : Prop} {v : Value} (h : ∃ v', s.run P w = .ok v' w ∧ VR M v v') : SimV N0 W0 P M H w s q v H := by
  obtain ⟨v', h1, h2⟩ := h
  exact ⟨w, M, v', h1, .refl _, hH, h2, fun _ => .refl _ _ _ fun _ _ _ e => hH.valid e⟩
theorem isAgg_some {t : TypeId} : isAggD P t = true → ∃ d, P.underlying t = some d := fun h => Option.isSome_iff_exists.1 (underlying_of_aggD h)
theorem load_sim (hH : HR N0 W0 M H w) {t : TypeId} {x y v : Value} (h : ldA P H t x = some v) (hx : VR M x y) : ∃ v', (Instr.loadAt t y).run P w = .ok v' w ∧ VR M v v' := by
  unfold ldA at h
  split at h
  · rename_i A off n
    obtain ⟨b, base, ext, hm, rfl⟩ := vr_ptr.1 hx
    unfold ldv at h
    cases hs : sz P t with
    | none => rw [hs] at h; cases h
    | some s =>
      rw [hs] at h
      simp only [Option.bind_some] at h
      cases hr : rd H A off n s with
      | none => rw [hr] at h; cases h
      | some cs =>
        rw [hr] at h
        simp only [Option.bind_some] at h
        obtain ⟨ds, hv, hsz, _, _, hc⟩ := hH.read hr hm
        have hlen := vrl_len hv
        simp only [Array.length_toList] at hlen
        split at h
        · rename_i ha
          cases h
          obtain ⟨d, hd⟩ := isAgg_some ha
          refine ⟨.agg ds.toArray, ?_, vr_agg.2 ⟨ds.toArray, rfl, by simpa using hv⟩⟩
          unfold Instr.loadAt loadVar
          simp only [Sem.run_bind, Instr.sureAddr, Sem.run_pure, Result.andThen_ok, run_agg hd, ha, if_true, run_sz hs]
          have := run_loadCells_list (P := P) w ⟨b, base + off, none⟩ ds (fun j v hj => by rw [add_none]; exact hc j v hj)
          rw [← hlen, hsz] at this
          rw [this]
          rfl
        · rename_i ha
          split at h
          · rename_i h1
            obtain ⟨rfl, hus⟩ := h1
            obtain ⟨y, hy, hvy⟩ := vrl_get (ys := ds.toArray) (by simpa using hv) h
            refine ⟨y, ?_, hvy⟩
            have h0 := hc 0 y (by simpa using hy)
            simp only [Nat.add_zero] at h0
            unfold Instr.loadAt loadVar
            cases hu : P.underlying t with
            | none => rw [hu] at hus; cases hus
            | some d =>
              simp only [Sem.run_bind, Instr.sureAddr, Sem.run_pure, Result.andThen_ok, run_agg hu]
              simp only [Bool.not_eq_true] at ha
              simp only [ha, Bool.false_eq_true, if_false, run_load, h0]
          · cases h
  · cases h
theorem store_sim (hH : HR N0 W0 M H w) {prot : Nat} {t : TypeId} {a x a' x' : Value} (h : stA P H prot t a x = some H') (ha : VR M a a') (hx : VR M x x') : SimU prot N0 W0 P M w (Instr.storeAt t a' x') H' := by
  unfold stA at h
  split at h
  · rename_i A off n
    obtain ⟨b, base, ext, hm, rfl⟩ := vr_ptr.1 ha
    cases hc : cellsV x with
    | none => rw [hc] at h; cases h
    | some cs =>
      rw [hc] at h
      simp only [Option.bind_some] at h
      split at h
      · rename_i hs
        obtain ⟨h1, h2⟩ := vr_cells hx hc
        obtain ⟨w', hr, hH', hkp⟩ := hH.write P h hm h1 h2
        refine ⟨w', M, ?_, .refl _, hH', hkp⟩
        have hl := vrl_len h1
        simp only [Array.length_toList] at hl
        unfold Instr.storeAt storeVar
        simp only [Sem.run_bind, Instr.sureAddr, Sem.run_pure, Result.andThen_ok, run_sz hs]
        rw [if_neg (by rw [hl]; simp)]
        exact hr
      · cases h
  · cases h
theorem new_sim (hH : HR N0 W0 M H w) {s : Sem Value} {t el : TypeId} {cs ds rest : Array Value} {fz : Nat × Nat} {v : Addr → Value} {v' : Addr → Value} (q : Prop) (hv : VRL M cs.toList ds.toList) (ho : cs.toList.all oneC = true)
    (hfz : (ds ++ rest).size ≤ fz.1 ∨ fz = (0, 0)) (w1 : World) (hw1 : Below w.heap.size w w1) (hsz : w1.heap.size = w.heap.size)
    (hr : s.run P w = .ok (v' ⟨w.heap.size, 0, none⟩) (w1.alloc (.cells (ds ++ rest) el fz)))
    (hval : ∀ M', M' H.length cs.size = some (w.heap.size, 0, (ds ++ rest).size) → Mle M M' → VR M' (v ⟨H.length, 0, some cs.size⟩) (v' ⟨w.heap.size, 0, none⟩)) :
    SimV N0 W0 P M H w s q (v ⟨H.length, 0, some cs.size⟩) (H ++ [cel t cs]) := by
  obtain ⟨h1, h2, h3⟩ := (hH.world hw1).newCells (e := t) (el := el) (rest := rest) hv ho fz hfz
  rw [hsz] at h1 h2 h3
  refine ⟨_, _, _, hr, h2, h1, hval _ (Mp.set_same _ _ _ _) h2, fun _ => ⟨?_, h3.old, ?_⟩⟩
  · exact hw1.trans (by have := h3.below; rw [hsz] at this; exact this)
  · intro A n b base ext hA e
    have := h3.new A n b base ext hA e
    omega
theorem alloc_sim (hH : HR N0 W0 M H w) {t : TypeId} {z : Value} {cs : Array Value} (hz : zer P t = some z) (hc : cellsV z = some cs) (q : Prop) :
    SimV N0 W0 P M H w (Instr.alloc t true (.tuple #[])) q (.pointer (some ⟨H.length, 0, some cs.size⟩)) (H ++ [cel t cs]) := by
  obtain ⟨h1, h2⟩ := zer_zero hz
  obtain ⟨h3, h4⟩ := vr_cells ((vr_flat1 (M := M) h2).2 rfl) hc
  refine new_sim hH (el := t) (ds := z.cells) (rest := #[]) (fz := (0, 0)) (v := fun a => .pointer (some a)) (v' := fun a => .pointer (some a)) q h3 h4 (.inr rfl) w (.refl _ _) rfl ?_ ?_
  · unfold Instr.alloc
    simp only [Sem.run_bind, run_of_pure h1, Result.andThen_ok]
    simp [newVar, newRow]
  · intro M' e _
    exact vr_ptr.2 ⟨_, _, _, e, rfl⟩
theorem box_sim (hH : HR N0 W0 M H w) {t : TypeId} {x y : Value} {cs : Array Value} (hc : cellsV x = some cs) (hx : VR M x y) (q : Prop) :
    SimV N0 W0 P M H w (Instr.box t y) q (.pointer (some ⟨H.length, 0, some cs.size⟩)) (H ++ [cel t cs]) := by
  obtain ⟨h3, h4⟩ := vr_cells hx hc
  refine new_sim hH (el := t) (ds := y.cells) (rest := #[]) (fz := (0, 0)) (v := fun a => .pointer (some a)) (v' := fun a => .pointer (some a)) q h3 h4 (.inr rfl) w (.refl _ _) rfl ?_ ?_
  · unfold Instr.box
    simp [newVar, newRow]
  · intro M' e _
    exact vr_ptr.2 ⟨_, _, _, e, rfl⟩
end Go.AM

namespace Go.AM
open Go
open Go.RowKit (Below)
variable {P : Program} {M : Mp} {H H' : Heap} {w : World} {N0 : Nat} {W0 : World}
theorem HR.no_later (h : HR N0 W0 M H w) {A n k : Nat} {B : Blk} (hB : H[A]? = some B) (hk : B.k = 0) (hn : n = B.c.size) (h0 : 0 < k) : M A (n + k) = none := by
  cases e : M A (n + k) with
  | none => rfl
  | some x =>
    obtain ⟨b, base, ext⟩ := x
    obtain ⟨B', hB', he⟩ := h.ent _ _ _ _ _ e
    rw [hB] at hB'; cases hB'
    have := (he.c hk).nle
    omega
theorem EntC.longer {M' : Mp} (hM : Mle M M') {B : Blk} {n b base ext : Nat} {w' : World} {xs : Array Value} (h : EntC M B n b base ext w) (h1 : xs.toList.all oneC = true)
    (hb : ∀ cs el fz, w.heap[b]? = some (.cells cs el fz) → ∃ cs', w'.heap[b]? = some (.cells cs' el fz) ∧ cs'.size = cs.size ∧ ∀ i, i < n → cs'[base + i]? = cs[base + i]?) :
    EntC M' { B with c := B.c ++ xs } n b base ext w' := by
  obtain ⟨g1, g2, g3, cs, el, fz, g4, g5, g6, g7⟩ := h
  obtain ⟨cs', k1, k2, k3⟩ := hb cs el fz g4
  refine ⟨by simp; omega, g2, by simp only [Array.toList_append, List.all_append, Bool.and_eq_true]; exact ⟨g3, h1⟩, cs', el, fz, k1, by omega, by rw [k2]; exact g6, ?_⟩
  intro hf i x hi hx
  simp only [Array.getElem?_append] at hx
  rw [if_pos (by omega)] at hx
  obtain ⟨y, hy, hv⟩ := g7 hf i x hi hx
  exact ⟨y, by rw [k3 i hi]; exact hy, vr_mono hM hv⟩
theorem HR.inPlace (P : Program) (h : HR N0 W0 M H w) {A n : Nat} {B : Blk} {xs : Array Value} {us : List Value} (hB : H[A]? = some B) (hk : B.k = 0) (hro : B.ro = false) (hfl : B.fl ≤ n) (hn : n = B.c.size)
    {b base ext : Nat} (hm : M A n = some (b, base, ext)) (hx : n + xs.size ≤ ext) (h0 : 0 < xs.size) (hv : VRL M xs.toList us) (h1 : xs.toList.all oneC = true) :
    ∃ w', (storeCells ⟨b, base + n, none⟩ us).run P w = .ok () w' ∧ HR N0 W0 (M.set A (n + xs.size) (b, base, ext)) (H.set A { B with c := B.c ++ xs }) w' ∧ Mle M (M.set A (n + xs.size) (b, base, ext)) ∧ Below b w w' := by
  have hnone := h.no_later hB hk hn h0
  have hle := Mp.set_le M A (n + xs.size) (b, base, ext) hnone
  obtain ⟨B', hB', he⟩ := h.ent _ _ _ _ _ hm
  rw [hB] at hB'; cases hB'
  obtain ⟨g1, g2, g3, cs, el, fz, g4, g5, g6, g7⟩ := he.c hk
  have hlen := vrl_len hv
  simp only [Array.length_toList] at hlen
  have hone := cells_oneCell hv h1
  have hrun := run_storeBlk P b (base + n) el fz us 0 cs w g4 (by omega) (fun j hj => fz_ok (g6 hro) (by omega)) hone
  refine ⟨_, hrun, ?_, hle, below_setBlk _ _ _ (Nat.le_refl _)⟩
  have hb0 : N0 ≤ b := he.own hro
  have hAlt := (List.getElem?_eq_some_iff.1 hB).1
  have hblk : ∀ k, b ≠ k → (setBlk w b (.cells (putAll cs (base + n + 0) us) el fz)).heap[k]? = w.heap[k]? := fun k hk => setBlk_other _ _ _ _ hk
  have hsame := setBlk_same w b (.cells (putAll cs (base + n + 0) us) el fz) he.lt
  refine ⟨h.below.trans (below_setBlk _ _ _ hb0), by rw [setBlk_size]; exact h.n0, ?_, ?_⟩
  · intro A' n' b' base' ext' e
    rcases Mp.set_some e with ⟨rfl, rfl, e2⟩ | e2
    · cases e2
      refine ⟨_, List.getElem?_set_self hAlt, ⟨by rw [setBlk_size]; exact he.lt, fun _ => hb0, fun hr => by simp [hro] at hr, fun _ => ⟨by simp; omega, hx, by simp only [Array.toList_append, List.all_append, Bool.and_eq_true]; exact ⟨g3, h1⟩, _, el, fz, hsame, by rw [putAll_size]; exact g5, by rw [putAll_size]; exact g6, ?_⟩, fun k => by simp [hk] at k, by simp [hk], fun k => by simp [hk] at k⟩⟩
      intro _ i x hi hxi
      simp only [Array.getElem?_append] at hxi
      rw [putAll_get _ _ _ _ (by omega)]
      by_cases hin : i < n
      · rw [if_pos (by omega)] at hxi
        rw [if_neg (by omega)]
        obtain ⟨y, hy, hv'⟩ := g7 hfl i x hin hxi
        exact ⟨y, hy, vr_mono hle hv'⟩
      · rw [if_neg (by omega)] at hxi
        rw [if_pos (by omega), show base + i - (base + n + 0) = i - B.c.size by omega]
        have hlt : i - B.c.size < us.length := by omega
        exact ⟨us[i - B.c.size], by simp [hlt], vr_mono hle ((vrl_iff.1 hv).2 (i - B.c.size) x _ (by simpa using hxi) (by simp [hlt]))⟩
    · obtain ⟨B', hB', he'⟩ := h.ent _ _ _ _ _ e2
      by_cases hA : A' = A
      · subst hA
        rw [hB] at hB'; cases hB'
        have hc' := he'.c hk
        refine ⟨_, List.getElem?_set_self hAlt, ⟨by rw [setBlk_size]; exact he'.lt, fun _ => he'.own hro, fun hr => by simp [hro] at hr, fun _ => ?_, fun k => by simp [hk] at k, by simp [hk], fun k => by simp [hk] at k⟩⟩
        refine hc'.longer hle h1 fun cs' el' fz' g4' => ?_
        by_cases hbb : b = b'
        · subst hbb
          rw [g4] at g4'; cases g4'
          refine ⟨_, hsame, putAll_size _ _ _, fun i hi => ?_⟩
          rw [putAll_get _ _ _ _ (by omega), if_neg ?_]
          have := hc'.nle
          rcases h.apart _ _ _ _ _ _ _ _ _ hm e2 hb0 with ⟨_, rfl, rfl⟩ | hd | hd
          · omega
          · omega
          · have := hc'.next; omega
        · exact ⟨cs', by rw [hblk _ hbb]; exact g4', rfl, fun _ _ => rfl⟩
      · refine ⟨B', by rw [List.getElem?_set_ne (fun x => hA x.symm)]; exact hB', ?_⟩
        by_cases hbb : b = b'
        · subst hbb
          have hd : base + ext ≤ base' ∨ base' + ext' ≤ base := by
            rcases h.apart _ _ _ _ _ _ _ _ _ hm e2 hb0 with ⟨hx, _⟩ | hx
            · exact absurd hx.symm hA
            · exact hx
          have hk1 : B'.k ≠ 1 := fun x => by obtain ⟨_, _, _, es, cl, hx, _⟩ := he'.m x; rw [g4] at hx; cases hx
          have hk2 : B'.k ≠ 2 := fun x => by obtain ⟨_, _, _, s, p, _, hx⟩ := he'.i x; rw [g4] at hx; cases hx
          have hk0 : B'.k = 0 := by have := he'.kk; omega
          obtain ⟨f1, f2, f3, cs', el', fz', f4, f5, f6, f7⟩ := he'.c hk0
          rw [g4] at f4; cases f4
          refine ⟨by rw [setBlk_size]; exact he'.lt, he'.own, he'.ro, fun _ => ⟨f1, f2, f3, _, el, fz, hsame, by rw [putAll_size]; exact f5, by rw [putAll_size]; exact f6, ?_⟩, fun x => absurd x hk1, he'.kk, fun x => absurd x hk2⟩
          intro hfl' i x hi hx
          rw [putAll_get _ _ _ _ (by omega), if_neg (by omega)]
          obtain ⟨y, hy, hv'⟩ := f7 hfl' i x hi hx
          exact ⟨y, hy, vr_mono hle hv'⟩
        · exact he'.keep hle (hblk _ hbb)
  · intro A1 n1 A2 n2 b1 base1 ext1 base2 ext2 e1 e2 hb
    rcases Mp.set_some e1 with ⟨rfl, rfl, e1'⟩ | e1'
    · cases e1'
      rcases Mp.set_some e2 with ⟨rfl, rfl, e2'⟩ | e2'
      · cases e2'; exact .inl ⟨rfl, rfl, rfl⟩
      · exact h.apart _ _ _ _ _ _ _ _ _ hm e2' hb
    · rcases Mp.set_some e2 with ⟨rfl, rfl, e2'⟩ | e2'
      · cases e2'; exact h.apart _ _ _ _ _ _ _ _ _ e1' hm hb
      · exact h.apart _ _ _ _ _ _ _ _ _ e1' e2' hb
theorem HR.moved (h : HR N0 W0 M H w) {A n : Nat} {B : Blk} {xs : Array Value} {us olds rest : Array Value} {el : TypeId} (hB : H[A]? = some B) (hk : B.k = 0) (hro : B.ro = false) (hn : n = B.c.size)
    (h0 : 0 < xs.size) (hv : VRL M xs.toList us.toList) (ho : VRL M B.c.toList olds.toList) (h1 : xs.toList.all oneC = true) (h2 : B.c.toList.all oneC = true) :
    HR N0 W0 (M.set A (n + xs.size) (w.heap.size, 0, (olds ++ us ++ rest).size)) (H.set A { B with c := B.c ++ xs }) (w.alloc (.cells (olds ++ us ++ rest) el)) ∧
      Mle M (M.set A (n + xs.size) (w.heap.size, 0, (olds ++ us ++ rest).size)) := by
  have hnone := h.no_later hB hk hn h0
  have hle := Mp.set_le M A (n + xs.size) (w.heap.size, 0, (olds ++ us ++ rest).size) hnone
  have hAlt := (List.getElem?_eq_some_iff.1 hB).1
  have hb := below_alloc w (.cells (olds ++ us ++ rest) el)
  have hl1 := vrl_len hv
  have hl2 := vrl_len ho
  simp only [Array.length_toList] at hl1 hl2
  refine ⟨⟨h.below.trans (hb.mono h.n0), Nat.le_trans h.n0 hb.size, ?_, ?_⟩, hle⟩
  · intro A' n' b' base' ext' e
    rcases Mp.set_some e with ⟨rfl, rfl, e2⟩ | e2
    · cases e2
      refine ⟨_, List.getElem?_set_self hAlt, ⟨by simp, fun _ => h.n0, fun hr => by simp [hro] at hr, fun _ => ⟨by simp; omega, by simp; omega, by simp only [Array.toList_append, List.all_append, Bool.and_eq_true]; exact ⟨h2, h1⟩, olds ++ us ++ rest, el, (0, 0), ?_, by simp, fun _ => .inr rfl, ?_⟩, fun k => by simp [hk] at k, by simp [hk], fun k => by simp [hk] at k⟩⟩
      · show (w.heap.push _)[w.heap.size]? = _
        simp
      · intro _ i x hi hxi
        have hall : VRL M (B.c ++ xs).toList (olds ++ us).toList := by
          simp only [Array.toList_append]
          exact vrl_append ho hv
        obtain ⟨y, hy, hvy⟩ := vrl_get hall hxi
        refine ⟨y, ?_, vr_mono hle hvy⟩
        have hlt := (Array.getElem?_eq_some_iff.1 hy).1
        rw [Nat.zero_add, Array.getElem?_append, if_pos hlt]
        exact hy
    · obtain ⟨B', hB', he'⟩ := h.ent _ _ _ _ _ e2
      by_cases hA : A' = A
      · subst hA
        rw [hB] at hB'; cases hB'
        have hc' := he'.c hk
        refine ⟨_, List.getElem?_set_self hAlt, ⟨by simp; have := he'.lt; omega, fun _ => he'.own hro, fun hr => by simp [hro] at hr, fun _ => ?_, fun k => by simp [hk] at k, by simp [hk], fun k => by simp [hk] at k⟩⟩
        exact hc'.longer hle h1 fun cs' el' fz' g4' => ⟨cs', by rw [hb.block _ he'.lt]; exact g4', rfl, fun _ _ => rfl⟩
      · exact ⟨B', by rw [List.getElem?_set_ne (fun x => hA x.symm)]; exact hB', he'.keep hle (hb.block _ he'.lt)⟩
  · intro A1 n1 A2 n2 b1 base1 ext1 base2 ext2 e1 e2 hbb
    rcases Mp.set_some e1 with ⟨rfl, rfl, e1'⟩ | e1'
    · cases e1'
      rcases Mp.set_some e2 with ⟨rfl, rfl, e2'⟩ | e2'
      · cases e2'; exact .inl ⟨rfl, rfl, rfl⟩
      · obtain ⟨_, _, he'⟩ := h.ent _ _ _ _ _ e2'; exact absurd he'.lt (by omega)
    · rcases Mp.set_some e2 with ⟨rfl, rfl, e2'⟩ | e2'
      · cases e2'; obtain ⟨_, _, he'⟩ := h.ent _ _ _ _ _ e1'; exact absurd he'.lt (by omega)
      · exact h.apart _ _ _ _ _ _ _ _ _ e1' e2' hbb
end Go.AM

namespace Go.AM
open Go
open Go.RowKit (Below)
variable {P : Program} {M : Mp} {H H' : Heap} {w : World} {N0 : Nat} {W0 : World}
theorem ints_one (b : ByteArray) : (b.data.map fun c => Value.int .u8 (c.toNat : Int)).toList.all oneC = true := by
  rw [List.all_eq_true]
  intro x hx
  simp only [Array.toList_map, List.mem_map] at hx
  obtain ⟨a, _, rfl⟩ := hx
  rfl
theorem ints_flat (b : ByteArray) : (b.data.map fun c => Value.int .u8 (c.toNat : Int)).toList.all flat = true := by
  rw [List.all_eq_true]
  intro x hx
  simp only [Array.toList_map, List.mem_map] at hx
  obtain ⟨a, _, rfl⟩ := hx
  rfl
theorem ints_self {M : Mp} (b : ByteArray) : VRL M (b.data.map fun c => Value.int .u8 (c.toNat : Int)).toList (b.data.map fun c => Value.int .u8 (c.toNat : Int)).toList :=
  (vrl_flat (ints_flat b)).2 rfl
theorem src_sim (hH : HR N0 W0 M H w) {s : Nat} {x y : Value} {xs : Array Value} {m : Nat} (h : srcOf H s x = some (xs, m)) (hx : VR M x y) :
    ∃ ds : Array Value, VRL M xs.toList ds.toList ∧ xs.toList.all oneC = true ∧ xs.size = m * s ∧ (Builtin.lenOf y).run P w = .ok m w ∧ (∀ k, k ≤ m → (Builtin.firstCells s k y).run P w = .ok (ds.extract 0 (k * s)) w) := by
  unfold srcOf at h
  split at h
  · cases h
    cases (vr_flat rfl).1 hx
    refine ⟨#[], vrl_nil.2 rfl, rfl, by simp, rfl, fun k hk => ?_⟩
    simp [Builtin.firstCells]
  · rename_i A off n len s'
    split at h
    · rename_i hs
      subst hs
      cases hr : rd H A off n (len * s') with
      | none => rw [hr] at h; cases h
      | some cs =>
        rw [hr] at h
        cases h
        obtain ⟨b, base, ext, o', cap, hm, rfl, hlc, ho⟩ := vr_sli.1 hx
        obtain ⟨ds, hv, hsz, hone, hle, hc⟩ := hH.read hr hm
        have hlen := vrl_len hv
        simp only [Array.length_toList] at hlen
        refine ⟨ds.toArray, by simpa using hv, hone, hsz, rfl, fun k hk => ?_⟩
        have hks : k * s' ≤ m * s' := Nat.mul_le_mul_right _ hk
        show (loadCells o' (k * s')).run P w = _
        have hcell : ∀ j v, (ds.take (k * s'))[j]? = some v → w.cell? (o'.add j) = some v := by
          intro j v hj
          rw [List.getElem?_take] at hj
          split at hj
          · rename_i hjk
            rcases ho with ⟨ho, _⟩ | ho
            · rw [ho, add_none]; exact hc j v hj
            · exfalso
              have : m = 0 := by omega
              subst this
              simp at hks
              omega
          · cases hj
        have := run_loadCells_list (P := P) w o' (ds.take (k * s')) hcell
        rw [List.length_take, show min (k * s') ds.length = k * s' by omega] at this
        rw [this]
        congr 1
        apply Array.ext'
        simp
    · cases h
  · rename_i b
    split at h
    · rename_i hs
      subst hs
      cases h
      cases (vr_flat rfl).1 hx
      refine ⟨_, ints_self b, ints_one b, by simp, rfl, fun k hk => ?_⟩
      simp only [Nat.mul_one]
      show Result.ok _ w = _
      congr 1
      apply Array.ext'
      simp [ByteArray.extract, ByteArray.copySlice]
    · cases h
  · cases h
theorem run_append_fits {st xt ty elem : TypeId} {base : Option Addr} {sLen sCap size m : Nat} {y : Value} {du : TypeDesc} {ds : Array Value} {i : TypeInfo} (hu : P.underlying st = some (.slice elem)) (hi : P.info? elem = some i) (hsz : i.size = size)
    (hdu : P.underlying xt = some du) (hni : ∀ k, du ≠ .int k) (hlen : (Builtin.lenOf y).run P w = .ok m w) (hall : (Builtin.firstCells size m y).run P w = .ok ds w) (hle : sLen + m ≤ sCap) :
    (Builtin.append_ #[st, xt] ty #[.slice base sLen sCap, y]).run P w = (match base with
      | some a => ((storeCells (a.add (sLen * size)) ds.toList).run P w).andThen fun _ w => .ok (.slice base (sLen + m) sCap) w
      | none => .ok (.slice base (sLen + m) sCap) w) := by
  subst hsz
  have hint : (match du with
      | .int _ => true
      | _ => false) = false := by cases du <;> first | rfl | exact absurd rfl (hni _)
  cases base <;> simp [Builtin.append_, run_underlying hu, run_underlying hdu, sizeOf, typeInfo, hi, hint, hlen, hle, hall]
theorem run_append_grows {st xt ty elem : TypeId} {base : Option Addr} {sLen sCap size m : Nat} {y z : Value} {du : TypeDesc} {olds ds : Array Value} {i : TypeInfo} (hu : P.underlying st = some (.slice elem)) (hi : P.info? elem = some i) (hsz : i.size = size)
    (hz : i.zero = some z) (hdu : P.underlying xt = some du) (hni : ∀ k, du ≠ .int k) (hlen : (Builtin.lenOf y).run P w = .ok m w) (hall : (Builtin.firstCells size m y).run P w.drew = .ok ds w.drew) (hle : ¬ sLen + m ≤ sCap)
    (hold : (Builtin.firstCells size sLen (.slice base sLen sCap)).run P w.drew = .ok olds w.drew) (hb : (sLen + m) * (i.bytes + 1) ≤ 2 ^ 47) :
    (Builtin.append_ #[st, xt] ty #[.slice base sLen sCap, y]).run P w = .ok (.slice (some ⟨w.heap.size, 0, none⟩) (sLen + m) (grownCap w (sLen + m) sCap elem))
      (w.drew.alloc (.cells (olds ++ ds ++ Builtin.zeroCells z.cells (grownCap w (sLen + m) sCap elem - (sLen + m))) elem)) := by
  subst hsz
  have hint : (match du with
      | .int _ => true
      | _ => false) = false := by cases du <;> first | rfl | exact absurd rfl (hni _)
  rw [Nat.mul_add] at hb
  have h63' : ¬ (9223372036854775807 < ((sLen : Int) + (m : Int))) := by omega
  have h48 := growslice_fits (need := sLen + m) (old := sCap) (bytes := i.bytes) (by omega) (by omega)
  have h48' : ¬ (281474976710656 < Builtin.nextslicecap (sLen + m) sCap * i.bytes) := by omega
  simp [Builtin.append_, run_underlying hu, run_underlying hdu, sizeOf, typeInfo, zeroValue, hi, hz, hint, hlen, hle, h63', h48', Question.forced, hall, hold, newRow, grownCap]
theorem elemI_some {t : TypeId} {size bytes : Nat} (h : elemI P t = some (size, bytes)) : ∃ i z, P.info? t = some i ∧ i.size = size ∧ i.bytes = bytes ∧ i.zero = some z ∧ z.cells.size = size := by
  unfold elemI at h
  cases hi : P.info? t with
  | none => rw [hi] at h; cases h
  | some i =>
    rw [hi] at h
    simp only [Option.bind_some] at h
    cases hz : zer P t with
    | none => rw [hz] at h; cases h
    | some z =>
      rw [hz] at h
      simp only [Option.bind_some] at h
      split at h
      · rename_i hs
        cases h
        refine ⟨i, z, rfl, rfl, rfl, ?_, hs⟩
        have := (zer_zero hz).1
        rw [pureRun_zeroValue, hi] at this
        exact this
      · cases h
theorem sz_of_info {t : TypeId} {i : TypeInfo} (h : P.info? t = some i) : sz P t = some i.size := by unfold sz; rw [h]; rfl
theorem HR.drew (h : HR N0 W0 M H w) : HR N0 W0 M H w.drew := h.world ((Below.refl _ _).drew)
theorem append_sim (hH : HR N0 W0 M H w) {prot : Nat} {st xt ty : TypeId} {s x s' x' v : Value} (h : appendV P prot st s x H = some (v, H')) (hs : VR M s s') (hx : VR M x x') {du : TypeDesc} (hdu : P.underlying xt = some du) (hni : ∀ k, du ≠ .int k) :
    SimK prot N0 W0 P M H w (Builtin.append_ #[st, xt] ty #[s', x']) v H' := by
  unfold appendV at h
  cases hu : P.underlying st with
  | none => rw [hu] at h; cases h
  | some d =>
  rw [hu] at h
  cases d <;> try (cases h; done)
  rename_i elem
  simp only at h
  cases hsb : elemI P elem with
  | none => rw [hsb] at h; cases h
  | some sb =>
  obtain ⟨size, bytes⟩ := sb
  rw [hsb] at h
  simp only [Option.bind_some] at h
  cases hsrc : srcOf H size x with
  | none => rw [hsrc] at h; cases h
  | some xm =>
  obtain ⟨xs, m⟩ := xm
  rw [hsrc] at h
  simp only [Option.bind_some] at h
  obtain ⟨ds, hv, hone, hxs, hlen, hfirst⟩ := src_sim (P := P) hH hsrc hx
  obtain ⟨ds2, hv2, _, _, _, hfirst2⟩ := src_sim (P := P) hH.drew hsrc hx
  obtain ⟨i, z, hi, his, hib, hiz, hzs⟩ := elemI_some hsb
  have hds : ds.size = m * size := by have := vrl_len hv; simp only [Array.length_toList] at this; omega
  have hds2 : ds2.size = m * size := by have := vrl_len hv2; simp only [Array.length_toList] at this; omega
  have hall := hfirst m (Nat.le_refl _)
  have hall2 := hfirst2 m (Nat.le_refl _)
  rw [show ds.extract 0 (m * size) = ds by rw [← hds]; simp] at hall
  rw [show ds2.extract 0 (m * size) = ds2 by rw [← hds2]; simp] at hall2
  split at h
  · cases (vr_flat rfl).1 hs
    split at h
    · rename_i hm
      cases h
      subst hm
      refine ⟨w, M, .slice none 0 0, ?_, .refl _, hH, flat_cases rfl, fun _ => .refl _ _ _⟩
      rw [run_append_fits hu hi his hdu hni hlen hall (by omega)]
    · rename_i hm
      split at h
      · rename_i hbb
        cases h
        have hr := run_append_grows (ty := ty) (base := none) (sLen := 0) (sCap := 0) (olds := #[]) hu hi his hiz hdu hni hlen hall2 (by omega) (by simp [Builtin.firstCells]) (by rw [hib]; simpa using hbb)
        simp only [Nat.zero_add, Array.empty_append] at hr
        have hcap := grownCap_ge w m 0 elem
        obtain ⟨h1, h2, h3⟩ := hH.drew.newCells (e := elem) (el := elem) (rest := Builtin.zeroCells z.cells (grownCap w m 0 elem - m)) hv2 hone (0, 0) (.inr rfl)
        refine ⟨_, _, _, hr, h2, h1, ?_, fun hp => (h3.kp hp).drew⟩
        refine vr_sli.2 ⟨w.heap.size, 0, _, _, _, Mp.set_same _ _ _ _, rfl, hcap, .inl ⟨rfl, ?_⟩⟩
        simp only [Array.size_append, size_zeroCells, hzs, hds2, ← Nat.add_mul]
        rw [Nat.zero_add, Nat.add_sub_cancel' hcap]
        exact Nat.le_refl _
      · cases h
  · rename_i A n len s2
    split at h
    · rename_i hss
      subst hss
      obtain ⟨b, base, ext, o', cap, hm, rfl, hlc, ho⟩ := vr_sli.1 hs
      split at h
      · rename_i hm0
        cases h
        subst hm0
        refine ⟨w, M, .slice (some o') len cap, ?_, .refl _, hH, hs, fun _ => .refl _ _ _⟩
        rw [run_append_fits hu hi his hdu hni hlen hall (by omega)]
        have : ds = #[] := by apply Array.eq_empty_of_size_eq_zero; simpa using hds
        subst this
        rfl
      · rename_i hm0
        cases hB : H[A]? with
        | none => rw [hB] at h; cases h
        | some B =>
          rw [hB] at h
          simp only [Option.bind_some] at h
          split at h
          · rename_i hc
            obtain ⟨hk, hp, hro, hfl, hn, hln, hs0, hbb⟩ := hc
            cases h
            have hx0 : 0 < xs.size := by rw [hxs]; exact Nat.mul_pos (by omega) hs0
            by_cases hfit : len + m ≤ cap
            · -- in place
              have ho' : o' = ⟨b, base, none⟩ ∧ cap * s2 ≤ ext := by
                rcases ho with ⟨h1, h2⟩ | h1
                · exact ⟨h1, by omega⟩
                · omega
              obtain ⟨rfl, hext⟩ := ho'
              have hmul : (len + m) * s2 ≤ cap * s2 := Nat.mul_le_mul_right _ hfit
              rw [Nat.add_mul] at hmul
              obtain ⟨w', h1, h2, h3, h4⟩ := hH.inPlace P hB hk hro hfl hn hm (by omega) hx0 hv hone
              refine ⟨w', _, .slice (some ⟨b, base, none⟩) (len + m) cap, ?_, h3, h2, ?_, fun _ => .set hm hp h4⟩
              · rw [run_append_fits hu hi his hdu hni hlen hall hfit]
                simp only [add_none, hln]
                rw [h1]
                rfl
              · exact vr_sli.2 ⟨b, base, ext, _, cap, Mp.set_same _ _ _ _, rfl, hfit, .inl ⟨rfl, by omega⟩⟩
            · -- moved
              obtain ⟨olds, hov, _, _, _, hof⟩ := src_sim (P := P) (x := .slice (some ⟨A, 0, some n⟩) len s2) (xs := B.c) (m := len) hH.drew (by
                simp only [srcOf, rd, hB, Option.bind_some]
                rw [if_pos rfl, if_pos ⟨hk, hfl, by omega, by omega⟩]
                simp [hln, hn]) hs
              have hosz : olds.size = len * s2 := by have := vrl_len hov; simp only [Array.length_toList] at this; omega
              have hof2 := hof len (Nat.le_refl _)
              rw [show olds.extract 0 (len * s2) = olds by rw [← hosz]; simp] at hof2
              have hr := run_append_grows (ty := ty) hu hi his hiz hdu hni hlen hall2 hfit hof2 (by rw [hib]; exact hbb)
              have hcap := grownCap_ge w (len + m) cap elem
              have hBone : B.c.toList.all oneC = true := by
                obtain ⟨B', hB', he⟩ := hH.ent _ _ _ _ _ hm
                rw [hB] at hB'; cases hB'
                exact (he.c hk).one
              obtain ⟨h1, h2⟩ := hH.drew.moved (rest := Builtin.zeroCells z.cells (grownCap w (len + m) cap elem - (len + m))) (el := elem) hB hk hro hn hx0 hv2 hov hone hBone
              refine ⟨_, _, _, hr, h2, h1, ?_, fun _ => (Kp.setNew hp (below_alloc _ _)).drew⟩
              refine vr_sli.2 ⟨w.heap.size, 0, _, _, _, Mp.set_same _ _ _ _, rfl, hcap, .inl ⟨rfl, ?_⟩⟩
              simp only [Array.size_append, size_zeroCells, hzs, hds2, hosz, ← Nat.add_mul]
              rw [Nat.zero_add, Nat.add_sub_cancel' hcap]
              exact Nat.le_refl _
          · cases h
    · cases h
  · cases h
end Go.AM

namespace Go.AM
open Go
open Go.RowKit (Below)
variable {P : Program} {M : Mp} {H H' : Heap} {w : World} {N0 : Nat} {W0 : World}
theorem copy_sim (hH : HR N0 W0 M H w) {prot : Nat} {dt xt ty : TypeId} {d x d' x' v : Value} (h : copyV P prot dt d x H = some (v, H')) (hd : VR M d d') (hx : VR M x x') :
    SimK prot N0 W0 P M H w (Builtin.copy_ #[dt, xt] ty #[d', x']) v H' := by
  unfold copyV at h
  cases hu : P.underlying dt with
  | none => rw [hu] at h; cases h
  | some dd =>
  rw [hu] at h
  cases dd <;> try (cases h; done)
  rename_i elem
  simp only at h
  cases hsz : sz P elem with
  | none => rw [hsz] at h; cases h
  | some size =>
  rw [hsz] at h
  simp only [Option.bind_some] at h
  cases hsrc : srcOf H size x with
  | none => rw [hsrc] at h; cases h
  | some xm =>
  obtain ⟨xs, m⟩ := xm
  rw [hsrc] at h
  simp only [Option.bind_some] at h
  obtain ⟨ds, hv, hone, hxs, hlen, hfirst⟩ := src_sim (P := P) hH hsrc hx
  split at h
  · cases h
    cases (vr_flat rfl).1 hd
    refine ⟨w, M, .int .i64 0, ?_, .refl _, hH, flat_cases rfl, fun _ => .refl _ _ _⟩
    have hf := hfirst 0 (Nat.zero_le _)
    unfold Builtin.copy_
    simp only [List.getElem?_toArray, List.getElem?_cons_zero, List.getElem?_cons_succ, Sem.run_bind, run_u hu, Result.andThen_ok, hlen, run_sz hsz]
    rw [show Nat.min m 0 = 0 from Nat.min_zero m, hf]
    rfl
  · rename_i A off n len s2
    split at h
    · rename_i hss
      subst hss
      obtain ⟨b, base, ext, o', cap, hm, rfl, hlc, ho⟩ := vr_sli.1 hd
      cases hw : wr H prot A off n (xs.extract 0 (Nat.min m len * s2)) with
      | none => rw [hw] at h; cases h
      | some H2 =>
        rw [hw] at h
        cases h
        have hk : Nat.min m len ≤ m := Nat.min_le_left _ _
        have hk2 : Nat.min m len ≤ len := Nat.min_le_right _ _
        have hf := hfirst _ hk
        have hone' : (xs.extract 0 (Nat.min m len * s2)).toList.all oneC = true := by
          rw [List.all_eq_true] at hone ⊢
          intro y hy
          refine hone y ?_
          simp only [Array.toList_extract, List.extract_eq_take_drop] at hy
          exact List.mem_of_mem_drop (List.mem_of_mem_take hy)
        obtain ⟨w', hr, hH2, hkp⟩ := hH.write P hw hm (vrl_extract hv 0 _) hone'
        refine ⟨w', M, .int .i64 (Nat.min m len : Nat), ?_, .refl _, hH2, flat_cases rfl, fun _ => hkp⟩
        unfold Builtin.copy_
        simp only [List.getElem?_toArray, List.getElem?_cons_zero, List.getElem?_cons_succ, Sem.run_bind, run_u hu, Result.andThen_ok, hlen, run_sz hsz, hf]
        rcases ho with ⟨ho1, _⟩ | ho1
        · subst ho1
          simp only [hr, Result.andThen_ok]
          rfl
        · have : Nat.min m len = 0 := by omega
          rw [this] at hr ⊢
          have he : (ds.extract 0 (0 * s2)).toList = [] := by simp
          rw [he] at hr ⊢
          simp only [storeCells, Sem.run_pure] at hr ⊢
          cases hr
          rfl
    · cases h
  · cases h
theorem zeros_flat (xs : List Value) : ∀ (l i : Nat), (List.replicate l xs).flatten[i]? = if i < l * xs.length then xs[i % xs.length]? else none
  | 0, i => by simp
  | l + 1, i => by
    rw [List.replicate_succ, List.flatten_cons, List.getElem?_append]
    by_cases h : i < xs.length
    · rw [if_pos h, if_pos (by rw [Nat.add_mul]; omega), Nat.mod_eq_of_lt h]
    · rw [if_neg h, zeros_flat xs l]
      by_cases h2 : i < (l + 1) * xs.length
      · rw [if_pos h2, if_pos (by rw [Nat.add_mul] at h2; omega)]
        congr 1
        rw [← Nat.mod_eq_sub_mod (by omega)]
      · rw [if_neg h2, if_neg (by rw [Nat.add_mul] at h2; omega)]
theorem zeros_eq (z : Array Value) (l : Nat) : (Array.range (l * z.size)).map (fun i => z[i % z.size]!) = zeros z l := by
  apply Array.ext_getElem?
  intro i
  simp only [Array.getElem?_map, zeros, List.getElem?_toArray, zeros_flat, Array.length_toList]
  by_cases h : i < l * z.size
  · have hz : 0 < z.size := by
      rcases Nat.eq_zero_or_pos z.size with e | e
      · rw [e] at h; omega
      · exact e
    have hm := Nat.mod_lt i hz
    rw [if_pos h]
    simp [h, hm]
  · rw [if_neg h]
    simp [h]
theorem zeros_size (z : Array Value) (l : Nat) : (zeros z l).size = l * z.size := by rw [← zeros_eq]; simp
theorem zeros_add (z : Array Value) (l k : Nat) : zeros z l ++ zeros z k = zeros z (l + k) := by
  unfold zeros
  apply Array.ext'
  simp only [Array.toList_append]
  rw [← List.replicate_append_replicate, List.flatten_append]
theorem vrl_flatten_rep {M : Mp} {xs ys : List Value} (h : VRL M xs ys) : ∀ l, VRL M (List.replicate l xs).flatten (List.replicate l ys).flatten
  | 0 => vrl_nil.2 rfl
  | l + 1 => by
    rw [List.replicate_succ, List.replicate_succ, List.flatten_cons, List.flatten_cons]
    exact vrl_append h (vrl_flatten_rep h l)
theorem vrl_zeros {M : Mp} {x y : Array Value} (h : VRL M x.toList y.toList) (l : Nat) : VRL M (zeros x l).toList (zeros y l).toList := by
  unfold zeros
  exact vrl_flatten_rep h l
theorem all_flatten_rep {p : Value → Bool} {xs : List Value} (h : xs.all p = true) : ∀ l, (List.replicate l xs).flatten.all p = true
  | 0 => rfl
  | l + 1 => by
    rw [List.replicate_succ, List.flatten_cons, List.all_append, h, all_flatten_rep h l]
    rfl
theorem all_zeros {p : Value → Bool} {x : Array Value} (h : x.toList.all p = true) (l : Nat) : (zeros x l).toList.all p = true := by
  unfold zeros
  exact all_flatten_rep h l
theorem zcells {t : TypeId} {cs : Array Value} (h : (zer P t).bind cellsV = some cs) : ∃ z i, P.info? t = some i ∧ i.zero = some z ∧ pureRun P (zeroValue t) = some z ∧ VRL M cs.toList z.cells.toList ∧ cs.toList.all oneC = true := by
  cases hz : zer P t with
  | none => rw [hz] at h; cases h
  | some z =>
    rw [hz] at h
    simp only [Option.bind_some] at h
    obtain ⟨h1, h2⟩ := zer_zero hz
    obtain ⟨h3, h4⟩ := vr_cells ((vr_flat1 (M := M) h2).2 rfl) h
    have h1' := h1
    rw [pureRun_zeroValue] at h1'
    cases hi : P.info? t with
    | none => rw [hi] at h1'; cases h1'
    | some i => rw [hi] at h1'; exact ⟨z, i, rfl, h1', h1, h3, h4⟩
theorem make_sim (hH : HR N0 W0 M H w) {t : TypeId} {l c l' c' v : Value} (h : mkSl P t l c H = some (v, H')) (hl : VR M l l') (hc : VR M c c') (q : Prop) :
    SimV N0 W0 P M H w (Instr.makeSlice t l' c') q v H' := by
  unfold mkSl at h
  split at h
  · rename_i elem ln cn hu
    cases (vr_flat rfl).1 hl
    cases (vr_flat rfl).1 hc
    cases hsz : sz P elem with
    | none => rw [hsz] at h; cases h
    | some size =>
    rw [hsz] at h
    simp only [Option.bind_some] at h
    cases hb : bts P elem with
    | none => rw [hb] at h; cases h
    | some bytes =>
    rw [hb] at h
    simp only [Option.bind_some] at h
    cases hz : (zer P elem).bind cellsV with
    | none => rw [hz] at h; cases h
    | some zc =>
    rw [hz] at h
    simp only [Option.bind_some] at h
    split at h
    · rename_i hcd
      obtain ⟨h1, h2, h3, h4, h5⟩ := hcd
      cases h
      obtain ⟨z, i, hi, hiz, hz1, hz2, hz3⟩ := zcells (M := M) hz
      have hib : i.bytes = bytes := by unfold bts at hb; rw [hi] at hb; cases hb; rfl
      have hzs : z.cells.size = size := by have := vrl_len hz2; simp only [Array.length_toList] at this; omega
      have hlw : IntKind.i64.wrap ln = ln := IntWalk.i64_in _ (by omega)
      have hcw : IntKind.i64.wrap cn = cn := IntWalk.i64_in _ (by omega)
      have hsz2 : (zeros zc ln.toNat).size = ln.toNat * size := by rw [zeros_size, h5]
      have hext : (zeros z.cells ln.toNat ++ zeros z.cells (cn.toNat - ln.toNat)) = zeros z.cells cn.toNat := by rw [zeros_add]; congr 1; omega
      have key := new_sim (P := P) (s := Instr.makeSlice t (.int .i64 ln) (.int .i64 cn)) hH (t := elem) (el := elem) (cs := zeros zc ln.toNat) (ds := zeros z.cells ln.toNat) (rest := zeros z.cells (cn.toNat - ln.toNat)) (fz := (0, 0)) (v := fun a => .slice (some a) ln.toNat size) (v' := fun a => .slice (some a) ln.toNat cn.toNat) q
        (vrl_zeros hz2 _) (all_zeros hz3 _) (.inr rfl) w (.refl _ _) rfl ?_ ?_
      · rw [hsz2] at key
        exact key
      · rw [hext]
        have g1 : ¬ (cn < 0) := by omega
        have g2 : ¬ (2 ^ 48 < (i.bytes : Int) * cn) := by rw [hib]; omega
        have g3 : ¬ (ln < 0) := by omega
        have g4 : ¬ (cn < ln) := by omega
        unfold Instr.makeSlice
        simp only [Sem.run_bind, run_u hu, Result.andThen_ok, asInt, asIntOf, Sem.run_pure, run_of_pure (show pureRun P (typeInfo elem) = some i by rw [pureRun_typeInfo, hi]), hlw, hcw]
        rw [if_neg (by simp; omega)]
        simp only [run_askRoom, Sem.run_bind, Result.andThen_ok, run_sz hsz]
        by_cases hn : cn.toNat * size = 0
        · rw [if_pos hn]
          have hzz : zeros z.cells cn.toNat = #[] := by apply Array.eq_empty_of_size_eq_zero; rw [zeros_size, hzs, hn]
          rw [hzz]
          simp only [Sem.run_pure, Result.andThen_ok, newRow, Sem.run_bind, run_newObj, hn]
          simp [show Array.range 0 = #[] from rfl]
        · rw [if_neg hn]
          simp only [Sem.run_bind, run_of_pure hz1, Result.andThen_ok, Sem.run_pure, newRow, run_newObj]
          rw [← hzs, zeros_eq]
          rfl
      · intro M' e _
        refine vr_sli.2 ⟨_, _, _, _, cn.toNat, by rw [hsz2] at *; exact e, rfl, by omega, .inl ⟨rfl, ?_⟩⟩
        rw [hext, zeros_size, hzs]
        omega
    · cases h
  · cases h
theorem buildSlice_sim (hH : HR N0 W0 M H w) {t : TypeId} {len : Nat} {ps qs : Array (Nat × Value)} {r : TypeId × Nat × Array Value} (h : fillC P t len ps = some r) (hp : PRel M ps.toList qs.toList) (q : Prop) :
    SimV N0 W0 P M H w (Instr.buildSlice t len qs) q (.slice (some ⟨H.length, 0, some r.2.2.size⟩) len r.2.1) (H ++ [cel r.1 r.2.2]) := by
  unfold fillC at h
  cases hu : P.underlying t with
  | none => rw [hu] at h; cases h
  | some d =>
  rw [hu] at h
  cases d <;> try (cases h; done)
  rename_i elem
  simp only at h
  cases hsz : sz P elem with
  | none => rw [hsz] at h; cases h
  | some size =>
  rw [hsz] at h
  simp only [Option.bind_some] at h
  split at h
  · rename_i hc
    obtain ⟨hc1, hc2⟩ := hc
    have hosz : ∀ {pl : Nat → Option (Nat × Nat)} {l : List (Nat × Value)} {a b : Array Value}, Instr.fill pl a l = some b → b.size = a.size := by
      intro pl l
      induction l with
      | nil => intro a b hh; cases hh; rfl
      | cons p l ih =>
        intro a b hh
        obtain ⟨i, v⟩ := p
        unfold Instr.fill at hh
        cases hpl : pl i with
        | none => rw [hpl] at hh; cases hh
        | some os =>
          obtain ⟨off, s⟩ := os
          rw [hpl] at hh
          simp only at hh
          split at hh
          · cases hh
          · rw [ih hh]
            have : ∀ (l : List (Value × Nat)) (a : Array Value), (l.foldl (fun cs (c, j) => cs.setIfInBounds (off + j) c) a).size = a.size := by
              intro l
              induction l with
              | nil => intro a; rfl
              | cons x l ih => intro a; obtain ⟨x, j⟩ := x; simp only [List.foldl_cons]; rw [ih]; simp
            rw [← Array.foldl_toList, this]
    -- the zero cells, here and there
    obtain ⟨zs, zs', zc, out, hv, hzs', hf, hone, hrr, hzc, hzc2⟩ : ∃ zs zs' zc out : Array Value, VRL M zs.toList zs'.toList ∧ zs'.size = len * size ∧ Instr.fill (fun i => some (i * size, size)) zs ps.toList = some out ∧ out.toList.all oneC = true ∧ r = (elem, size, out) ∧
        ((len * size = 0 ∧ zc = #[]) ∨ (¬ len * size = 0 ∧ ∃ z, pureRun P (zeroValue elem) = some z ∧ zc = z.cells)) ∧ (Array.range (len * size)).map (fun i => zc[i % zc.size]!) = zs' := by
      by_cases hn : len * size = 0
      · simp only [hn, if_true, Option.bind_some] at h
        rw [if_pos (.inr trivial)] at h
        cases hf : Instr.fill (fun i => some (i * size, size)) #[] ps.toList with
        | none => rw [hf] at h; cases h
        | some out =>
          rw [hf] at h
          simp only [Option.bind_some] at h
          split at h
          · rename_i ho
            cases h
            exact ⟨#[], #[], #[], out, vrl_nil.2 rfl, by simp [hn], hf, ho, rfl, .inl ⟨hn, rfl⟩, by rw [hn]; simp [show Array.range 0 = #[] from rfl]⟩
          · cases h
      · simp only [if_neg hn] at h
        cases hz : (zer P elem).bind cellsV with
        | none => rw [hz] at h; cases h
        | some zv =>
        rw [hz] at h
        simp only [Option.bind_some] at h
        obtain ⟨z, i, hi, hiz, hz1, hz2, hz3⟩ := zcells (M := M) hz
        split at h
        · rename_i hs
          have hs' : zv.size = size := by rcases hs with e | e; exact e; exact absurd e hn
          have hzs : z.cells.size = size := by have := vrl_len hz2; simp only [Array.length_toList] at this; omega
          cases hf : Instr.fill (fun i => some (i * size, size)) (zeros zv len) ps.toList with
          | none => rw [hf] at h; cases h
          | some out =>
            rw [hf] at h
            simp only [Option.bind_some] at h
            split at h
            · rename_i ho
              cases h
              refine ⟨zeros zv len, zeros z.cells len, z.cells, out, vrl_zeros hz2 _, by rw [zeros_size, hzs], hf, ho, rfl, .inr ⟨hn, z, hz1, rfl⟩, by rw [← hzs, zeros_eq]⟩
            · cases h
        · cases h
    subst hrr
    obtain ⟨out', hf', hv'⟩ := fill_sim hp hc2 hv hf
    refine new_sim (P := P) (s := Instr.buildSlice t len qs) hH (t := elem) (el := elem) (cs := out) (ds := out') (rest := #[]) (fz := (0, 0)) (v := fun a => .slice (some a) len size) (v' := fun a => .slice (some a) len len) q hv' hone (.inr rfl) w (.refl _ _) rfl ?_ ?_
    · unfold Instr.buildSlice
      simp only [Sem.run_bind, run_u hu, Result.andThen_ok, run_sz hsz]
      rw [if_neg (by omega)]
      rcases hzc with ⟨hn, rfl⟩ | ⟨hn, z, hz1, rfl⟩
      · rw [if_pos hn]
        simp only [Sem.run_bind, Sem.run_pure, Result.andThen_ok, hzc2, hf']
        simp [newRow]
      · rw [if_neg hn]
        simp only [Sem.run_bind, run_of_pure hz1, Sem.run_pure, Result.andThen_ok, hzc2, hf']
        simp [newRow]
    · intro M' e _
      refine vr_sli.2 ⟨_, _, _, _, len, e, rfl, Nat.le_refl _, .inl ⟨rfl, ?_⟩⟩
      have := hosz hf'
      rw [show (out' ++ (#[] : Array Value)).size = out'.size by simp]
      omega
  · cases h
end Go.AM

namespace Go.AM
open Go
open Go.RowKit (Below)
variable {P : Program} {M : Mp} {H H' : Heap} {w : World} {N0 : Nat} {W0 : World}
theorem flat_oneC {v : Value} (h : flat v = true) : oneC v = true := by
  cases v with
  | chan r => cases r with
    | none => rfl
    | some r => exact absurd h (by simp [flat])
  | agg => exact absurd h (by simp [flat])
  | tuple => exact absurd h (by simp [flat])
  | _ => rfl
theorem freeze_new (w : World) (cs : Array Value) (e : TypeId) : (w.alloc (.cells cs e)).freeze ⟨w.heap.size, cs.size, none⟩ 1 = w.alloc (.cells cs e (cs.size, cs.size + 1)) := by
  unfold World.freeze World.alloc
  rw [if_neg (by decide)]
  congr 1
  apply Array.ext_getElem?
  intro i
  rw [Array.getElem?_modify, Array.getElem?_push, Array.getElem?_push]
  by_cases h : i = w.heap.size
  · subst h; simp
  · simp [h]
    intro h2; exact absurd h2.symm h
theorem run_mark (w : World) (cs : Array Value) (e : TypeId) : (markStringish ⟨w.heap.size, 0, none⟩).run P (w.alloc (.cells cs e)) = .ok () (w.alloc (.cells cs e (cs.size, cs.size + 1))) := by
  have hs : (w.alloc (.cells cs e)).shape? w.heap.size = some (e, cs.size) := by
    unfold World.shape? World.alloc
    simp
  unfold markStringish
  simp only [Sem.run_bind, run_shape, hs, Result.andThen_ok, run_freeze, freeze_new]
theorem foldlM_bytes : ∀ (l : List Value) (r b : ByteArray), l.foldlM (fun (s : ByteArray) c => match c with
    | .int .u8 n => some (s.push (UInt8.ofNat n.toNat))
    | _ => none) r = some b → ∃ ns : List Int, l = ns.map (Value.int .u8) ∧ b = ns.foldl (fun r n => r.push (UInt8.ofNat n.toNat)) r
  | [], r, b, h => ⟨[], rfl, by simpa using h.symm⟩
  | x :: l, r, b, h => by
    rw [List.foldlM_cons] at h
    split at h
    · rename_i n
      obtain ⟨ns, h1, h2⟩ := foldlM_bytes l _ b h
      exact ⟨n :: ns, by rw [h1]; rfl, h2⟩
    · cases h
theorem conv_sim (hH : HR N0 W0 M H w) {src dst : TypeId} {x y v : Value} (h : convV P src dst x H = some (v, H')) (hx : VR M x y) (q : Prop) : SimV N0 W0 P M H w (convert src dst y) q v H' := by
  unfold convV at h
  split at h
  · rename_i ds e s hs hd
    cases (vr_flat rfl).1 hx
    split at h
    · rename_i he
      cases h
      have hcap := grownCap_ge w s.size 0 e
      refine new_sim (P := P) hH (t := e) (el := e) (cs := s.data.map fun c => Value.int .u8 (c.toNat : Int)) (ds := s.data.map fun c => Value.int .u8 (c.toNat : Int)) (rest := Array.replicate (grownCap w s.size 0 e - s.size) (.int .u8 0))
        (fz := (grownCap w s.size 0 e, grownCap w s.size 0 e + 1)) (v := fun a => .slice (some a) s.size 1) (v' := fun a => .slice (some a) s.size (grownCap w s.size 0 e)) q (ints_self s) (ints_one s) (.inl ?_) w.drew ((Below.refl _ _).drew) rfl ?_ ?_ |> fun x => by simpa using x
      · simp; omega
      · have hsz : ((s.data.map fun c => Value.int .u8 (c.toNat : Int)) ++ Array.replicate (grownCap w s.size 0 e - s.size) (Value.int .u8 0)).size = grownCap w s.size 0 e := by simp; omega
        unfold convert
        simp only [Sem.run_bind, run_u hs, run_u hd, run_u he, Result.andThen_ok]
        unfold Conv.stringToBytes
        simp only [Sem.run_bind, run_choose, Question.forced, Bool.false_eq_true, if_false, Result.andThen_ok]
        show ((newRow e _).run P w.drew).andThen _ = _
        simp only [newRow, Sem.run_bind, run_newObj, Result.andThen_ok, Sem.run_pure]
        have := run_mark (P := P) w.drew ((s.data.map fun c => Value.int .u8 (c.toNat : Int)) ++ Array.replicate (grownCap w s.size 0 e - s.size) (Value.int .u8 0)) e
        rw [hsz] at this
        show (Result.andThen ((markStringish ⟨w.drew.heap.size, 0, none⟩).run P (w.drew.alloc (.cells ((s.data.map fun c => Value.int .u8 (c.toNat : Int)) ++ Array.replicate (grownCap w s.size 0 e - s.size) (Value.int .u8 0)) e))) _) = _
        rw [this]
        rfl
      · intro M' e1 _
        refine vr_sli.2 ⟨_, _, _, _, _, e1, rfl, hcap, .inl ⟨rfl, ?_⟩⟩
        simp; omega
    · rename_i he
      simp only at h
      split at h
      · rename_i hfl
        cases h
        generalize hr : Conv.runesFrom s s.size 0 #[] = rs at *
        have hcap := grownCap_ge w rs.size 0 e
        have hone : rs.toList.all oneC = true := by
          rw [List.all_eq_true] at hfl ⊢
          intro x hx
          exact flat_oneC (hfl x hx)
        refine new_sim (P := P) hH (t := e) (el := e) (cs := rs) (ds := rs) (rest := Array.replicate (grownCap w rs.size 0 e - rs.size) (.int .i32 0))
          (fz := (0, 0)) (v := fun a => .slice (some a) rs.size 1) (v' := fun a => .slice (some a) rs.size (grownCap w rs.size 0 e)) q ((vrl_flat hfl).2 rfl) hone (.inr rfl) w.drew ((Below.refl _ _).drew) rfl ?_ ?_
        · unfold convert
          simp only [Sem.run_bind, run_u hs, run_u hd, run_u he, Result.andThen_ok]
          unfold Conv.stringToRunes
          simp only [Sem.run_bind, run_choose, Question.forced, Bool.false_eq_true, if_false, Result.andThen_ok, hr]
          show ((newRow e _).run P w.drew).andThen _ = _
          simp only [newRow, Sem.run_bind, run_newObj, Result.andThen_ok, Sem.run_pure]
          rfl
        · intro M' e1 _
          refine vr_sli.2 ⟨_, _, _, _, _, e1, rfl, hcap, .inl ⟨rfl, ?_⟩⟩
          simp; omega
      · cases h
    · cases h
  · rename_i e A off n len s' hs hd
    split at h
    · rename_i he
      split at h
      · rename_i hs1
        subst hs1
        cases hr : rd H A off n len with
        | none => rw [hr] at h; cases h
        | some cs =>
        rw [hr] at h
        simp only [Option.bind_some] at h
        cases hb : bytesOf cs with
        | none => rw [hb] at h; cases h
        | some b =>
        rw [hb] at h
        cases h
        obtain ⟨b0, base, ext, o', cap, hm, rfl, hlc, ho⟩ := vr_sli.1 hx
        obtain ⟨ds, hv, hsz, hone, hle, hc⟩ := hH.read hr hm
        obtain ⟨ns, hns, rfl⟩ := foldlM_bytes _ _ _ hb
        have hfl : cs.toList.all flat = true := by rw [hns, List.all_eq_true]; intro x hx; rw [List.mem_map] at hx; obtain ⟨a, _, rfl⟩ := hx; rfl
        have hds := (vrl_flat hfl).1 hv
        subst hds
        refine SimV.pure hH ⟨_, ?_, flat_cases rfl⟩
        rw [run_convert_bytes_string w src dst e _ len cap hs he hd]
        refine run_bytesToString w _ len cap ns ?_
        by_cases hl0 : len = 0
        · subst hl0
          have : cs = #[] := Array.eq_empty_of_size_eq_zero hsz
          subst this
          simp at hns
          subst hns
          rfl
        · have ho' : o' = ⟨b0, base + off, none⟩ := by
            rcases ho with ho | ho
            · exact ho.1
            · omega
          subst ho'
          have := run_loadCells_list (P := P) w ⟨b0, base + off, none⟩ cs.toList (fun j v hj => by rw [add_none]; exact hc j v hj)
          rw [Array.length_toList, hsz] at this
          rw [this, hns]
      · cases h
    · cases h
  · split at h
    · rename_i hf
      obtain ⟨u, hr, hu⟩ := Option.bind_eq_some_iff.1 h
      split at hu
      · rename_i huf
        cases hu
        rw [(vr_flat hf).1 hx]
        exact SimV.pure hH ⟨v, run_of_pure hr, flat_cases huf⟩
      · cases hu
    · cases h
def FR (M : Mp) (m : List (Value × Value)) (es : List MapEntry) (i0 : Nat) : Option (Nat × Value) → Option (Nat × Value) → Prop
  | none, none => True
  | some (i, v), some (j, u) => i = j ∧ i0 ≤ i ∧ VR M v u ∧ (∃ k, m[i - i0]? = some (k, v)) ∧ ∃ e, es[i - i0]? = some e ∧ e.val = u
  | _, _ => False
theorem ml_cons {p : Value × Value} {m : List (Value × Value)} {e : MapEntry} {es : List MapEntry} (h : ML M (p :: m) (e :: es)) : (flat1 p.1 = true ∧ e.key = p.1 ∧ VR M p.2 e.val) ∧ ML M m es :=
  ⟨h.2 0 p e rfl rfl, by have := h.1; simpa using this, fun i p e hp he => h.2 (i + 1) p e (by simpa using hp) (by simpa using he)⟩
theorem FR.step {p : Value × Value} {m : List (Value × Value)} {e : MapEntry} {es : List MapEntry} {i : Nat} {a b : Option (Nat × Value)} (h : FR M m es (i + 1) a b) : FR M (p :: m) (e :: es) i a b := by
  cases a with
  | none => cases b <;> exact h
  | some a => cases b with
    | none => exact h
    | some b =>
      obtain ⟨j, v⟩ := a; obtain ⟨j', u⟩ := b
      obtain ⟨h1, h2, h3, ⟨k, hk⟩, e', he, hv⟩ := h
      have e1 : j - i = (j - (i + 1)) + 1 := by omega
      exact ⟨h1, by omega, h3, ⟨k, by rw [e1, List.getElem?_cons_succ]; exact hk⟩, e', by rw [e1, List.getElem?_cons_succ]; exact he, hv⟩
theorem findNow_sim {d : TypeDesc} {k : Value} : ∀ {m : List (Value × Value)} {es : List MapEntry} {i : Nat}, ML M m es →
    match Instr.findNow d k (entries m) i with
      | none => Instr.findNow d k es i = none
      | some r => ∃ r', Instr.findNow d k es i = some r' ∧ FR M m es i r r'
  | [], [], i, _ => ⟨none, rfl, trivial⟩
  | [], _ :: _, _, h => by simp [ML] at h
  | _ :: _, [], _, h => by simp [ML] at h
  | p :: m, e :: es, i, h => by
    obtain ⟨⟨h1, h2, h3⟩, h4⟩ := ml_cons h
    have ih := findNow_sim (d := d) (k := k) (i := i + 1) h4
    have e1 : entries (p :: m) = { key := p.1, val := p.2, born := 0 } :: entries m := rfl
    rw [e1]
    unfold Instr.findNow
    simp only [h2]
    cases Instr.sameNow d k p.1 with
    | none => rfl
    | some b => cases b with
      | true => exact ⟨some (i, e.val), rfl, rfl, Nat.le_refl _, h3, ⟨p.1, by simp⟩, e, by simp, rfl⟩
      | false =>
        simp only
        cases hn : Instr.findNow d k (entries m) (i + 1) with
        | none => rw [hn] at ih; exact ih
        | some r =>
          rw [hn] at ih
          obtain ⟨r', h5, h6⟩ := ih
          exact ⟨r', h5, h6.step⟩
theorem findAsking_sim {kt : TypeId} {k : Value} : ∀ {m : List (Value × Value)} {es : List MapEntry} {i : Nat} {r : Option (Nat × Value)}, ML M m es → pureRun P (Instr.findAsking kt k (entries m) i) = some r →
    ∃ r', pureRun P (Instr.findAsking kt k es i) = some r' ∧ FR M m es i r r'
  | [], [], i, r, _, h => by cases h; exact ⟨none, rfl, trivial⟩
  | [], _ :: _, _, _, h, _ => by simp [ML] at h
  | _ :: _, [], _, _, h, _ => by simp [ML] at h
  | p :: m, e :: es, i, r, h, hr => by
    obtain ⟨⟨h1, h2, h3⟩, h4⟩ := ml_cons h
    have e1 : entries (p :: m) = { key := p.1, val := p.2, born := 0 } :: entries m := rfl
    rw [e1] at hr
    unfold Instr.findAsking at hr ⊢
    simp only [h2]
    rw [pureRun_bind] at hr ⊢
    cases hq : pureRun P (Op.equal kt k p.1) with
    | none => rw [hq] at hr; cases hr
    | some b =>
      rw [hq] at hr
      simp only [Option.bind_some] at hr ⊢
      cases b with
      | true =>
        simp only [if_true] at hr ⊢
        cases hr
        exact ⟨_, rfl, rfl, Nat.le_refl _, h3, ⟨p.1, by simp⟩, e, by simp, rfl⟩
      | false =>
        simp only [Bool.false_eq_true, if_false] at hr ⊢
        obtain ⟨r', h5, h6⟩ := findAsking_sim h4 hr
        exact ⟨r', h5, h6.step⟩
theorem findKey_sim {kt : TypeId} {k : Value} {m : List (Value × Value)} {es : List MapEntry} {r : Option (Nat × Value)} (h : ML M m es) (hr : pureRun P (Instr.findKey kt k (entries m)) = some r) :
    ∃ r', pureRun P (Instr.findKey kt k es) = some r' ∧ FR M m es 0 r r' := by
  unfold Instr.findKey at hr ⊢
  rw [pureRun_bind, pureRun_underlying] at hr ⊢
  cases hu : P.underlying kt with
  | none => rw [hu] at hr; cases hr
  | some d =>
    rw [hu] at hr
    simp only [Option.bind_some] at hr ⊢
    have hs := findNow_sim (d := d) (k := k) (i := 0) h
    cases hn : Instr.findNow d k (entries m) 0 with
    | none =>
      rw [hn] at hs hr
      simp only at hs
      rw [hs]
      exact findAsking_sim h hr
    | some r2 =>
      rw [hn] at hs hr
      obtain ⟨r', h5, h6⟩ := hs
      rw [h5]
      cases hr
      exact ⟨r', rfl, h6⟩
theorem getObj_run {b : Nat} {o : Obj} (h : w.heap[b]? = some o) (hc : ∀ c e f, o ≠ .cells c e f) : (getObj b).run P w = .ok o w := by
  unfold getObj
  cases o <;> first | exact absurd rfl (hc _ _ _) | simp only [Sem.run, h]
theorem lookup_sim (hH : HR N0 W0 M H w) {T : TypeId} {x k x' k' v : Value} {ok : Bool} (h : lookV P T x k ok H = some v) (hx : VR M x x') (hk : VR M k k') : ∃ v', (Instr.lookup T x' k' ok).run P w = .ok v' w ∧ VR M v v' := by
  unfold lookV at h
  cases hu : P.underlying T with
  | none => rw [hu] at h; cases h
  | some d =>
  rw [hu] at h
  cases d <;> try (cases h; done)
  rename_i kt et
  simp only at h
  obtain ⟨m, hm, h⟩ := Option.bind_eq_some_iff.1 h
  split at h
  · rename_i hfk
    cases (vr_flat1 hfk).1 hk
    obtain ⟨r, hr, h⟩ := Option.bind_eq_some_iff.1 h
    -- the entries, there
    obtain ⟨es, hes, hml⟩ : ∃ es : Array MapEntry, ML M m es.toList ∧ ((x' = .map none ∧ es = #[]) ∨ ∃ b cl, x' = .map (some b) ∧ w.heap[b]? = some (.map es cl)) := by
      split at hm
      · cases hm
        cases (vr_flat rfl).1 hx
        exact ⟨#[], ⟨rfl, fun i p e hp => by simp at hp⟩, .inl ⟨rfl, rfl⟩⟩
      · rename_i r
        obtain ⟨b, base, ext, hmm, rfl⟩ := vr_map.1 hx
        obtain ⟨B, hB, he⟩ := hH.ent _ _ _ _ _ hmm
        rw [hB] at hm
        simp only [Option.bind_some] at hm
        split at hm
        · rename_i hk1
          cases hm
          obtain ⟨_, _, _, es, cl, hw, hml⟩ := he.m hk1
          exact ⟨es, hml, .inr ⟨b, cl, rfl, hw⟩⟩
        · cases hm
      · cases hm
    rw [pureRun_bind] at hr
    obtain ⟨_, hck, hr⟩ := Option.bind_eq_some_iff.1 hr
    obtain ⟨r', hr', hfr⟩ := findKey_sim hes hr
    have hemp : m.isEmpty = es.isEmpty := by
      have h1 := hes.1
      obtain ⟨l⟩ := es
      cases m <;> cases l <;> simp at h1 ⊢
    rw [hemp] at hck
    have tail : ∃ v' ok', (match r' with
        | some (_, v) => pure (v, true)
        | none => do pure (← zeroValue et, false) : Sem (Value × Bool)).run P w = .ok (v', ok') w ∧ VR M v (if ok = true then .tuple #[v', .bool ok'] else v') := by
      have tup : ∀ (u u' : Value) (b : Bool), VR M u u' → v = (if ok = true then .tuple #[u, .bool b] else u) → VR M v (if ok = true then .tuple #[u', .bool b] else u') := by
        intro u u' b hu hv
        subst hv
        cases ok
        · exact hu
        · exact vr_tuple.2 ⟨_, rfl, vrl_cons2.2 ⟨hu, vrl_cons2.2 ⟨flat_cases rfl, vrl_nil.2 rfl⟩⟩⟩
      cases r with
      | none => cases r' with
        | some _ => exact hfr.elim
        | none =>
          simp only at h
          obtain ⟨z, hz, h⟩ := Option.map_eq_some_iff.1 h
          obtain ⟨hz1, hz2⟩ := zer_zero hz
          refine ⟨z, false, ?_, tup z z false ((vr_flat1 hz2).2 rfl) h.symm⟩
          simp only [Sem.run_bind, run_of_pure hz1, Result.andThen_ok, Sem.run_pure]
      | some p => cases r' with
        | none => exact hfr.elim
        | some p' =>
          obtain ⟨i, u⟩ := p; obtain ⟨j, u'⟩ := p'
          simp only at h
          cases h
          exact ⟨u', true, rfl, tup u u' true hfr.2.2.1 rfl⟩
    obtain ⟨v', ok', ht, hv⟩ := tail
    refine ⟨_, ?_, hv⟩
    have hck' := run_of_pure (w := w) hck
    have hr'' := run_of_pure (w := w) hr'
    rcases hml with ⟨rfl, rfl⟩ | ⟨b, cl, rfl, hw⟩
    · unfold Instr.lookup
      simp only [Sem.run_bind, run_u hu, Result.andThen_ok, Sem.run_pure, hck', hr'']
      cases r' with
      | none => simp only [Sem.run_bind, Sem.run_pure] at ht ⊢; cases hzz : (zeroValue et).run P w with
        | ok a b => rw [hzz] at ht; simp only [Result.andThen_ok] at ht ⊢; cases ht; rfl
        | halt a b => rw [hzz] at ht; cases ht
      | some p => obtain ⟨i, u⟩ := p; cases ht; rfl
    · unfold Instr.lookup
      simp only [Sem.run_bind, run_u hu, Result.andThen_ok, Sem.run_pure, getObj_run (P := P) hw (fun _ _ _ e => by cases e), hck', hr'']
      cases r' with
      | none => simp only [Sem.run_bind, Sem.run_pure] at ht ⊢; cases hzz : (zeroValue et).run P w with
        | ok a b => rw [hzz] at ht; simp only [Result.andThen_ok] at ht ⊢; cases ht; rfl
        | halt a b => rw [hzz] at ht; cases ht
      | some p => obtain ⟨i, u⟩ := p; cases ht; rfl
  · cases h
theorem HR.mark (hH : HR N0 W0 M H w) {A n b base ext : Nat} {B : Blk} (hB : H[A]? = some B) (hk : B.k = 0) (hro : B.ro = false) (hm : M A n = some (b, base, ext)) {prot : Nat} (hp : prot ≤ A) {o : Nat} :
    ∃ w', (markStringish ⟨b, o, none⟩).run P w = .ok () w' ∧ HR N0 W0 M H w' ∧ Kp prot M M w w' := by
  obtain ⟨B', hB', he⟩ := hH.ent _ _ _ _ _ hm
  obtain rfl : B = B' := Option.some.inj (hB.symm.trans hB')
  obtain ⟨g1, g2, g3, cs, el, fz, g4, g5, g6, g7⟩ := he.c hk
  have hb0 : N0 ≤ b := he.own hro
  have hs : w.shape? b = some (el, cs.size) := by simp only [World.shape?, g4]
  have hrun : (markStringish ⟨b, o, none⟩).run P w = .ok () (w.freeze ⟨b, cs.size, none⟩ 1) := by
    unfold markStringish
    simp only [Sem.run_bind, run_shape, hs, Result.andThen_ok, run_freeze]
  obtain ⟨fz', hfz', hw'⟩ : ∃ fz' : Nat × Nat, (cs.size ≤ fz'.1 ∨ fz' = (0, 0)) ∧ w.freeze ⟨b, cs.size, none⟩ 1 = setBlk w b (.cells cs el fz') := by
    obtain ⟨lo, hi⟩ := fz
    refine ⟨(if lo == hi then (cs.size, cs.size + 1) else (min lo cs.size, max hi (cs.size + 1))), ?_, ?_⟩
    · left
      rcases g6 hro with h | h
      · simp only at h
        split
        · exact Nat.le_refl _
        · simp only; omega
      · cases h
        exact Nat.le_refl _
    · unfold World.freeze setBlk
      rw [if_neg (by decide)]
      congr 1
      apply Array.ext_getElem?
      intro i
      rw [Array.getElem?_modify, Array.getElem?_setIfInBounds]
      by_cases h : b = i
      · subst h
        rw [if_pos rfl, if_pos rfl, g4, if_pos he.lt]
        rfl
      · rw [if_neg h, if_neg h]
  rw [hw'] at hrun
  refine ⟨_, hrun, ⟨hH.below.trans (below_setBlk _ _ _ hb0), by rw [setBlk_size]; exact hH.n0, ?_, hH.apart⟩, .write hm hp (below_setBlk _ _ _ (Nat.le_refl _))⟩
  intro A' n' b' base' ext' e
  obtain ⟨B', hB', he'⟩ := hH.ent _ _ _ _ _ e
  refine ⟨B', hB', ?_⟩
  by_cases hbb : b = b'
  · subst hbb
    have hk1 : B'.k ≠ 1 := fun x => by obtain ⟨_, _, _, es, cl, hx, _⟩ := he'.m x; rw [g4] at hx; cases hx
    have hk2 : B'.k ≠ 2 := fun x => by obtain ⟨_, _, _, s, p, _, hx⟩ := he'.i x; rw [g4] at hx; cases hx
    have hk0 : B'.k = 0 := by have := he'.kk; omega
    obtain ⟨f1, f2, f3, cs', el', fz'', f4, f5, f6, f7⟩ := he'.c hk0
    rw [g4] at f4; cases f4
    exact ⟨by rw [setBlk_size]; exact he'.lt, he'.own, he'.ro, fun _ => ⟨f1, f2, f3, _, el, fz', setBlk_same _ _ _ he.lt, f5, fun _ => hfz', f7⟩, fun x => absurd x hk1, he'.kk, fun x => absurd x hk2⟩
  · exact he'.keep (.refl _) (setBlk_other _ _ _ _ hbb)
theorem mark_sim (hH : HR N0 W0 M H w) {prot : Nat} {T : TypeId} {x y v : Value} (h : markV P prot T x H = some (v, H')) (hx : VR M x y) : SimK prot N0 W0 P M H w (convert T T y) v H' := by
  unfold markV at h
  split at h
  · rename_i e A o n l s hs
    split at h
    · rename_i he
      obtain ⟨B, hB, h⟩ := Option.bind_eq_some_iff.1 h
      split at h
      · rename_i hc
        cases h
        obtain ⟨b, base, ext, o', cap, hm, rfl, hlc, ho⟩ := vr_sli.1 hx
        obtain rfl : o' = ⟨b, base + o, none⟩ := by
          rcases ho with ho | ho
          · exact ho.1
          · exfalso; omega
        obtain ⟨w', h1, h2, h3⟩ := hH.mark (P := P) hB hc.1 hc.2.2.1 hm hc.2.1 (o := base + o)
        refine ⟨w', M, _, ?_, .refl _, h2, hx, fun _ => h3⟩
        unfold convert
        simp only [Sem.run_bind, run_u hs, run_u he, Result.andThen_ok, beq_self_eq_true, h1, Sem.run_pure]
      · cases h
    · cases h
  · obtain ⟨w', M', v', h1, h2, h3, h4, h5⟩ := conv_sim (P := P) hH h hx True
    exact ⟨w', M', v', h1, h2, h3, h4, fun hp => (h5 trivial).kp hp⟩
end Go.AM

namespace Go.AM
open Go
open Go.RowKit (Below)
variable {P : Program} {M : Mp} {H H' : Heap} {w : World} {N0 : Nat} {W0 : World}
theorem setObj_run {b : Nat} {o o' : Obj} (h : w.heap[b]? = some o) (hc : ∀ c e f, o ≠ .cells c e f) : (setObj b o').run P w = .ok () (setBlk w b o') := by
  unfold setObj setBlk
  cases o <;> first | exact absurd rfl (hc _ _ _) | simp only [Sem.run, h]
theorem HR.obj (h : HR N0 W0 M H w) {A b base ext : Nat} {B B' : Blk} {o' : Obj} (hB : H[A]? = some B) (hm : M A 0 = some (b, base, ext)) (hk : B.k = B'.k) (hk0 : B.k ≠ 0) (hw : N0 ≤ b)
    (he : ∀ w', w'.heap[b]? = some o' → w'.heap.size = w.heap.size → Ent M N0 B' 0 b base ext w') : HR N0 W0 M (H.set A B') (setBlk w b o') := by
  obtain ⟨B1, hB1, he1⟩ := h.ent _ _ _ _ _ hm
  rw [hB] at hB1; cases hB1
  have hAlt := (List.getElem?_eq_some_iff.1 hB).1
  have hbe : base = 0 ∧ ext = 1 := by
    have := he1.kk
    by_cases h1 : B.k = 1
    · exact ⟨(he1.m h1).2.1, (he1.m h1).2.2.1⟩
    · have h2 : B.k = 2 := by omega
      exact ⟨(he1.i h2).2.1, (he1.i h2).2.2.1⟩
  obtain ⟨rfl, rfl⟩ := hbe
  have hnc : ∀ cs el fz, w.heap[b]? ≠ some (.cells cs el fz) := by
    intro cs el fz hx
    have := he1.kk
    by_cases h1 : B.k = 1
    · obtain ⟨_, _, _, _, _, hy, _⟩ := he1.m h1; rw [hx] at hy; cases hy
    · obtain ⟨_, _, _, _, _, _, hy⟩ := he1.i (by omega); rw [hx] at hy; cases hy
  refine ⟨h.below.trans (below_setBlk _ _ _ hw), by rw [setBlk_size]; exact h.n0, ?_, h.apart⟩
  intro A' n' b' base' ext' e
  obtain ⟨B2, hB2, he2⟩ := h.ent _ _ _ _ _ e
  by_cases hA : A' = A
  · subst hA
    rw [hB] at hB2; cases hB2
    have hn : n' = 0 := by
      have := he2.kk
      by_cases h1 : B.k = 1
      · exact (he2.m h1).1
      · exact (he2.i (by omega)).1
    subst hn
    rw [hm] at e; cases e
    exact ⟨B', List.getElem?_set_self hAlt, he _ (setBlk_same _ _ _ he1.lt) (setBlk_size _ _ _)⟩
  · refine ⟨B2, by rw [List.getElem?_set_ne (fun x => hA x.symm)]; exact hB2, he2.keep (.refl _) (setBlk_other _ _ _ _ ?_)⟩
    rintro rfl
    rcases h.apart _ _ _ _ _ _ _ _ _ hm e hw with ⟨hx, _⟩ | hx | hx
    · exact hA hx.symm
    · have hk2 : B2.k = 0 := by
        have := he2.kk
        by_cases h0 : B2.k = 0
        · exact h0
        · exfalso
          by_cases h1 : B2.k = 1
          · have := (he2.m h1).2.1; omega
          · have := (he2.i (by omega)).2.1; omega
      obtain ⟨_, _, _, cs, el, fz, hy, _⟩ := he2.c hk2
      exact hnc _ _ _ hy
    · have hk2 : B2.k = 0 := by
        have := he2.kk
        by_cases h0 : B2.k = 0
        · exact h0
        · exfalso
          by_cases h1 : B2.k = 1
          · have := (he2.m h1).2.2.1; omega
          · have := (he2.i (by omega)).2.2.1; omega
      obtain ⟨_, _, _, cs, el, fz, hy, _⟩ := he2.c hk2
      exact hnc _ _ _ hy
theorem ml_set {m : List (Value × Value)} {es : Array MapEntry} (h : ML M m es.toList) {i : Nat} {k v v' : Value} (hk : flat1 k = true) (hv : VR M v v') (hi : i < m.length) :
    ML M (m.set i (k, v)) (es.modify i fun e => { e with key := k, val := v' }).toList := by
  have hl := h.1
  simp only [Array.length_toList] at hl
  refine ⟨by simp [hl], fun j p e hp he => ?_⟩
  rw [List.getElem?_set] at hp
  simp only [Array.getElem?_toList, Array.getElem?_modify] at he
  by_cases hij : i = j
  · subst hij
    simp [hi] at hp
    subst hp
    rw [if_pos rfl] at he
    obtain ⟨e0, he0, rfl⟩ := Option.map_eq_some_iff.1 he
    exact ⟨hk, rfl, hv⟩
  · rw [if_neg hij] at hp he
    exact h.2 j p e hp (by simpa using he)
theorem ml_push {m : List (Value × Value)} {es : Array MapEntry} (h : ML M m es.toList) {k v v' : Value} {c : Nat} (hk : flat1 k = true) (hv : VR M v v') :
    ML M (m ++ [(k, v)]) (es.push { key := k, val := v', born := c }).toList := by
  have hl := h.1
  simp only [Array.length_toList] at hl
  refine ⟨by simp [hl], fun j p e hp he => ?_⟩
  simp only [Array.toList_push] at he
  rw [List.getElem?_append] at hp he
  simp only [Array.length_toList] at he
  by_cases hj : j < m.length
  · rw [if_pos hj] at hp
    rw [if_pos (by omega)] at he
    exact h.2 j p e hp he
  · rw [if_neg hj] at hp
    rw [if_neg (by omega)] at he
    have : j - m.length = 0 := by
      rcases Nat.eq_zero_or_pos (j - m.length) with h0 | h0
      · exact h0
      · rw [List.getElem?_eq_none (by simp; omega)] at hp; cases hp
    rw [this] at hp
    rw [← hl, this] at he
    simp at hp he
    subst hp; subst he
    exact ⟨hk, rfl, hv⟩
theorem mapUp_sim (hH : HR N0 W0 M H w) {prot : Nat} {T : TypeId} {x k v x' k' v' : Value} (h : mapUp P prot T x k v H = some H') (hx : VR M x x') (hk : VR M k k') (hv : VR M v v') :
    SimU prot N0 W0 P M w (Instr.mapUpdate T x' k' v') H' := by
  unfold mapUp at h
  split at h
  · rename_i kt et r hu
    obtain ⟨B, hB, h⟩ := Option.bind_eq_some_iff.1 h
    obtain ⟨b, base, ext, hmm, rfl⟩ := vr_map.1 hx
    obtain ⟨B1, hB1, he⟩ := hH.ent _ _ _ _ _ hmm
    rw [hB] at hB1; cases hB1
    split at h
    · rename_i hc
      obtain ⟨hk1, hp, hfk, hro⟩ := hc
      cases (vr_flat1 hfk).1 hk
      obtain ⟨_, _, _, es, cl, hw, hml⟩ := he.m hk1
      obtain ⟨q, hq, h⟩ := Option.bind_eq_some_iff.1 h
      rw [pureRun_bind] at hq
      obtain ⟨_, hck, hq⟩ := Option.bind_eq_some_iff.1 hq
      obtain ⟨q', hq', hfr⟩ := findKey_sim hml hq
      have hck' := run_of_pure (w := w) hck
      have hq'' := run_of_pure (w := w) hq'
      have hN := he.own hro
      have hent : ∀ (m' : List (Value × Value)) (es' : Array MapEntry) (cl' : Nat), ML M m' es'.toList → HR N0 W0 M (H.set r { B with m := m' }) (setBlk w b (.map es' cl')) := by
        intro m' es' cl' hml'
        refine hH.obj hB hmm rfl (by omega) hN fun w' hw' hs => ?_
        exact ⟨by rw [hs]; exact he.lt, he.own, he.ro, fun k0 => by simp at k0; omega, fun _ => ⟨rfl, (he.m hk1).2.1, (he.m hk1).2.2.1, es', cl', hw', hml'⟩, he.kk, fun k2 => by simp at k2; omega⟩
      cases q with
      | some iv =>
        obtain ⟨i, u⟩ := iv
        cases q' with
        | none => exact hfr.elim
        | some jv =>
          obtain ⟨j, u'⟩ := jv
          obtain ⟨rfl, _, _, ⟨k0, hk0⟩, e0, he0, _⟩ := hfr
          simp only [Nat.sub_zero] at hk0 he0
          simp only at h
          obtain ⟨p, hp0, h⟩ := Option.bind_eq_some_iff.1 h
          rw [hk0] at hp0; cases hp0
          split at h
          · rename_i hsb
            cases h
            have hilt := (List.getElem?_eq_some_iff.1 hk0).1
            have hkey := (hml.2 i _ _ hk0 he0).2.1
            simp only at hkey
            refine ⟨_, M, ?_, .refl _, hent _ _ cl (ml_set hml hfk hv hilt), .write hmm hp (below_setBlk _ _ _ (Nat.le_refl _))⟩
            unfold Instr.mapUpdate
            simp only [Sem.run_bind, run_u hu, Result.andThen_ok, getObj_run (P := P) hw (fun _ _ _ e => by cases e), hck', hq'']
            have hst : (Instr.keyThatStays (((es[i]?).map (·.key)).getD k) k).run P w = .ok k w := by
              have : es[i]? = some e0 := by simpa using he0
              rw [this]
              unfold Instr.keyThatStays
              simp only [Option.map_some, Option.getD_some, hkey, hsb, if_true]
              rfl
            rw [hst]
            simp only [Result.andThen_ok]
            exact setObj_run hw (fun _ _ _ e => by cases e)
          · cases h
      | none =>
        cases q' with
        | some _ => exact hfr.elim
        | none =>
          cases h
          refine ⟨_, M, ?_, .refl _, hent _ _ (cl + 1) (ml_push (c := cl) hml hfk hv), .write hmm hp (below_setBlk _ _ _ (Nat.le_refl _))⟩
          unfold Instr.mapUpdate
          simp only [Sem.run_bind, run_u hu, Result.andThen_ok, getObj_run (P := P) hw (fun _ _ _ e => by cases e), hck', hq'']
          exact setObj_run hw (fun _ _ _ e => by cases e)
    · cases h
  · cases h
theorem next_sim (hH : HR N0 W0 M H w) {prot : Nat} {x x' v : Value} {ty : TypeId} (h : nextV prot x H = some (v, H')) (hx : VR M x x') : SimK prot N0 W0 P M H w (Instr.next x' true ty) v H' := by
  unfold nextV at h
  split at h
  · rename_i A
    obtain ⟨B, hB, h⟩ := Option.bind_eq_some_iff.1 h
    obtain ⟨b, base, ext, hmm, rfl⟩ := vr_ptr.1 hx
    obtain ⟨B1, hB1, he⟩ := hH.ent _ _ _ _ _ hmm
    rw [hB] at hB1; cases hB1
    split at h
    · rename_i hc
      obtain ⟨hk, hp, hro⟩ := hc
      obtain ⟨_, hb0, he1, s, pos, hcs, hw⟩ := he.i hk
      subst hb0
      rw [hcs] at h
      simp only at h
      rw [if_pos (by omega)] at h
      have hg := getObj_run (P := P) hw (fun _ _ _ e => by cases e)
      split at h
      · rename_i hlt
        cases h
        simp only [Int.toNat_natCast] at hlt ⊢
        refine ⟨setBlk w b (.stringIter s (pos + (Utf8.decode s pos).2)), M, _, ?_, .refl _, ?_, (vr_ground (by simp [ground, flat1, flat])).2 rfl, fun _ => .write hmm hp (below_setBlk _ _ _ (Nat.le_refl _))⟩
        · unfold Instr.next
          simp only [Nat.add_zero]
          simp only [Sem.run_bind, hg, Result.andThen_ok, if_pos hlt, setObj_run (P := P) hw (fun _ _ _ e => by cases e)]
          rfl
        · refine hH.obj hB hmm rfl (by omega) (he.own hro) fun w' hw' hs => ?_
          exact ⟨by rw [hs]; exact he.lt, he.own, he.ro, fun k0 => by simp at k0; omega, fun k1 => by simp at k1; omega, he.kk, fun _ => ⟨rfl, rfl, he1, s, _, rfl, hw'⟩⟩
      · rename_i hlt
        cases h
        simp only [Int.toNat_natCast] at hlt
        refine ⟨w, M, _, ?_, .refl _, hH, (vr_ground (by simp [ground, flat1, flat])).2 rfl, fun _ => .refl _ _ _⟩
        unfold Instr.next
        simp only [Nat.add_zero]
        simp only [Sem.run_bind, hg, Result.andThen_ok, if_neg hlt]
        rfl
    · cases h
  · cases h
end Go.AM
