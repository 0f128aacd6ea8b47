/-
  What the abstract machine answers for a function, the model's call answers. Asked of the program: Good. Then its steps as rules for simp.
-/
import Derived.Test.YtibglbjklefjdaaGreatDoorANc
import Derived.ScopeJumps
import Derived.LoopN
import Derived.Recover
import Derived.Lib.Strings
import Derived.WalkSmall
set_option linter.all false
set_option linter.unusedSimpArgs false
set_option linter.unusedVariables false
set_option linter.unusedSectionVars false
namespace Go.AM
open Go
open Go.RowKit (Below)
variable {P : Program} {N0 : Nat} {W0 : World} {cl : FuncId → Nat} {fn : Fn'} {rec : Ru} {prot N : Nat} {M : Mp} {w : World} {s s' : St} {a : Act} {e : Exit}
def RuSound (P : Program) (N0 : Nat) (W0 : World) (cl : FuncId → Nat) (k : Nat) (rec : Ru) : Prop := ∀ c prot s e s' N, rec c prot s = some (e, s') → codeOk cl N c = true → prot ≤ s.H.length → ∀ M a w, HR N0 W0 M s.H w → SR M N s a →
  c.wp P (Post N0 W0 prot N M w s' e) a w ∧ ∀ d, c = .loop d → Code.rounds P d (Post N0 W0 prot N M w s' e) k a w
def RuPre (rec : Ru) : Prop := ∀ c prot s e s', rec c prot s = some (e, s') → prot ≤ s.H.length → Pr prot s.H s'.H
theorem rounds_mono {c : Code} {Q Q' : Exit → Act → World → Prop} (h : ∀ e a w, Q e a w → Q' e a w) : ∀ {n : Nat} {a : Act} {w : World}, Code.rounds P c Q n a w → Code.rounds P c Q' n a w
  | 0, _, _, hh => hh
  | n + 1, a, w, hh => by
    rw [rounds_succ] at hh ⊢
    refine wp_mono hh fun e a w hq => ?_
    cases e <;> first | exact h _ _ _ hq | exact rounds_mono h hq
theorem then_post {s1 : St} {e' : Exit} {a1 : Act} {w1 : World} {K : Act → World → Prop} {Q : Exit → Act → World → Prop} (h : Post N0 W0 prot N M w s1 e e' a1 w1) (hK : e = .normal → Post N0 W0 prot N M w s1 .normal .normal a1 w1 → K a1 w1)
    (hQ : e ≠ .normal → Q e' a1 w1) : Exit.then K Q e' a1 w1 := by
  obtain ⟨M', h1, h2, h3, h4, h5⟩ := h
  cases e <;> cases e' <;> first | exact h4.elim | exact hQ (by simp) | exact hK rfl ⟨M', h1, h2, h3, trivial, h5⟩
theorem andThen_pre {x : Option (Exit × St)} {f : St → Option (Exit × St)} (h : andThen x f = some (e, s')) : ∃ e1 s1, x = some (e1, s1) ∧ ((e1 = .normal ∧ f s1 = some (e, s')) ∨ (e1 ≠ .normal ∧ e = e1 ∧ s' = s1)) := by
  unfold andThen at h
  obtain ⟨⟨e1, s1⟩, h1, h⟩ := Option.bind_eq_some_iff.1 h
  refine ⟨e1, s1, h1, ?_⟩
  simp only at h
  split at h
  · exact .inl ⟨rfl, h⟩
  · rename_i hne; cases h; exact .inr ⟨hne, rfl, rfl⟩
theorem codeOk_label : ∀ {c rest : Code} {l : Nat}, codeOk cl N c = true → findLabel c l = some rest → codeOk cl N rest = true
  | .seq a b, rest, l, h, hf => by
    simp only [codeOk, Bool.and_eq_true] at h
    rw [findLabel] at hf
    split at hf
    · rename_i r hr
      cases hf
      simp only [codeOk, Bool.and_eq_true]
      exact ⟨codeOk_label h.1 hr, h.2⟩
    · exact codeOk_label h.2 hf
  | .label l', rest, l, h, hf => by
    rw [findLabel] at hf
    split at hf <;> cases hf
    rfl
  | .skip, _, _, _, hf | .region .., _, _, _, hf | .cond .., _, _, _, hf | .block .., _, _, _, hf | .loop .., _, _, _, hf | .exit .., _, _, _, hf | .ret, _, _, _, hf | .goto .., _, _, _, hf | .scope .., _, _, _, hf => by simp [findLabel] at hf
  | .rangeFunc .., _, _, h, _ => by simp [codeOk] at h
theorem scope_sound {k : Nat} (hrec : RuSound P N0 W0 cl k rec) (hpre : RuPre rec) {c : Code} (hc : codeOk cl N c = true) : ∀ (m : Nat) (cur : Code) (s : St), scopeGo rec prot c m cur s = some (e, s') → codeOk cl N cur = true → prot ≤ s.H.length →
    ∀ M a w, HR N0 W0 M s.H w → SR M N s a → ∀ (b : Frame) (k : List Item) (cs : List Frame), ∃ e' a' w', Post N0 W0 prot N M w s' e e' a' w' ∧ Arrives P (lone (b.at a (.code cur :: .inScope c :: k)) cs w) b k cs e' a' w' := by
  intro m
  induction m with
  | zero => intro cur s h; cases h
  | succ m ih =>
    intro cur s h hcur hp M a w hH hS b k cs
    rw [scopeGo] at h
    obtain ⟨⟨e1, s1⟩, h1, h⟩ := Option.bind_eq_some_iff.1 h
    obtain ⟨e', a1, w1, hq, harr⟩ := (hrec _ _ _ _ _ _ h1 hcur hp M a w hH hS).1 b (.inScope c :: k) cs
    simp only at h
    have hpp := (hpre _ _ _ _ _ h1 hp).1
    split at h
    · rename_i l
      obtain ⟨M', g1, g2, g3, g4, g5⟩ := hq
      cases e' <;> first | (exact g4.elim) | skip
      rename_i l'
      cases (show l = l' from g4)
      split at h
      · rename_i rest hr
        obtain ⟨e2, a2, w2, k1, k2⟩ := ih rest s1 h (codeOk_label hc hr) (by omega) M' a1 w1 g2 g3 b k cs
        exact ⟨e2, a2, w2, k1.trans g1 g5, .of_steps (harr _ (by simp [gotoIn, hr])) k2⟩
      · rename_i hr
        cases h
        exact ⟨.goto l, a1, w1, ⟨M', g1, g2, g3, rfl, g5⟩, fun k' hk => harr k' (by simp [gotoIn, hr, hk])⟩
    · rename_i hne
      cases h
      cases e' with
      | normal => exact ⟨.normal, a1, w1, hq, Steps.trans harr (.one step_inScope)⟩
      | exit id => exact ⟨.exit id, a1, w1, hq, fun k' hk => harr k' (by simp [exitTo, hk])⟩
      | goto l' =>
        obtain ⟨_, _, _, _, g4, _⟩ := hq
        cases e <;> first | exact g4.elim | skip
        exact absurd rfl (hne _)
      | ret => exact ⟨_, a1, w1, hq, harr⟩
      | panic ch => exact ⟨_, a1, w1, hq, harr⟩
      | outgrown => exact ⟨_, a1, w1, hq, harr⟩
theorem scope_pre (hpre : RuPre rec) {c : Code} : ∀ (m : Nat) (cur : Code) (s : St), scopeGo rec prot c m cur s = some (e, s') → prot ≤ s.H.length → Pr prot s.H s'.H := by
  intro m
  induction m with
  | zero => intro cur s h; cases h
  | succ m ih =>
    intro cur s h hp
    rw [scopeGo] at h
    obtain ⟨⟨e1, s1⟩, h1, h⟩ := Option.bind_eq_some_iff.1 h
    have hpp := hpre _ _ _ _ _ h1 hp
    simp only at h
    split at h
    · split at h
      · exact hpp.trans (ih _ _ h (by have := hpp.1; omega))
      · cases h; exact hpp
    · cases h; exact hpp
theorem evC_pre {m : Nat} (hfn : FnPre cl fn) (hrec : RuPre rec) : RuPre (fun c prot s => evC fn P cl m rec prot c s) := by
  intro c prot s e s' h hp
  change evC fn P cl m rec prot c s = _ at h
  cases c <;> simp only [evC] at h <;> first | (cases h; done) | skip
  case skip => cases h; exact .refl _ _
  case region id ops draw =>
    split at h
    · unfold drawn at h
      obtain ⟨⟨e1, s1⟩, h1, h⟩ := Option.bind_eq_some_iff.1 h
      have := evOps_pre hfn h1 hp
      simp only at h
      split at h
      · split at h
        · exact fltGo_pre hfn h hp
        · cases h; exact this
      · exact evDrop_pre hfn h hp
      · cases h
    · exact evOps_pre hfn h hp
  case seq x y =>
    obtain ⟨e1, s1, h1, h⟩ := andThen_pre h
    have k1 := hrec _ _ _ _ _ h1 hp
    rcases h with ⟨rfl, h⟩ | ⟨_, rfl, rfl⟩
    · exact k1.trans (hrec _ _ _ _ _ h (by have := k1.1; omega))
    · exact k1
  case cond c x y =>
    split at h
    · split at h <;> exact hrec _ _ _ _ _ h hp
    · cases h
  case block id c =>
    obtain ⟨⟨e1, s1⟩, h1, h⟩ := Option.bind_eq_some_iff.1 h
    have k1 := hrec _ _ _ _ _ h1 hp
    simp only at h
    split at h
    · split at h <;> cases h <;> exact k1
    · cases h; exact k1
  case loop c =>
    obtain ⟨e1, s1, h1, h⟩ := andThen_pre h
    have k1 := hrec _ _ _ _ _ h1 hp
    rcases h with ⟨rfl, h⟩ | ⟨_, rfl, rfl⟩
    · exact k1.trans (hrec _ _ _ _ _ h (by have := k1.1; omega))
    · exact k1
  case exit id => cases h; exact .refl _ _
  case ret => cases h; exact .refl _ _
  case label l => cases h; exact .refl _ _
  case goto l => cases h; exact .refl _ _
  case scope c => exact scope_pre hrec _ _ _ h hp
theorem ops_ok {N : Nat} {ops : Array Oper} (h : ops.all (operOk N) = true) : ∀ o ∈ ops.toList, operOk N o = true := by
  rw [Array.all_eq_true_iff_forall_mem] at h
  exact fun o ho => h o (by simpa using ho)
theorem evC_sound {k m : Nat} (hm : P.follows .mixedOrders = true) (hfn : FnSound P N0 W0 cl fn) (hpf : FnPre cl fn) (hrec : RuSound P N0 W0 cl k rec) (hpre : RuPre rec) : RuSound P N0 W0 cl (k + 1) (fun c prot s => evC fn P cl m rec prot c s) := by
  intro c prot s e s' N h hc hp M a w hH hS
  change evC fn P cl m rec prot c s = _ at h
  have self : ∀ {e : Exit}, XR M e e → Post N0 W0 prot N M w s e e a w := fun hx => ⟨M, .refl _, hH, hS, hx, .refl _ _ _⟩
  by_cases hl : ∃ d, c = .loop d
  · obtain ⟨d, rfl⟩ := hl
    simp only [evC] at h
    simp only [codeOk] at hc
    obtain ⟨e1, s1, h1, h⟩ := andThen_pre h
    have key : Code.rounds P d (Post N0 W0 prot N M w s' e) (k + 1) a w := by
      rw [rounds_succ]
      refine wp_mono (hrec _ _ _ _ _ _ h1 hc hp M a w hH hS).1 fun e' a1 w1 hq => then_post hq ?_ ?_
      · rintro rfl ⟨M1, g1, g2, g3, _, g5⟩
        rcases h with ⟨_, h⟩ | ⟨hne, _⟩
        · have := (hrec _ _ _ _ _ N h (by simpa [codeOk] using hc) (by have := (hpre _ _ _ _ _ h1 hp).1; omega) M1 a1 w1 g2 g3).2 d rfl
          exact rounds_mono (fun _ _ _ hq => hq.trans g1 g5) this
        · exact absurd rfl hne
      · intro hne
        rcases h with ⟨rfl, h⟩ | ⟨_, rfl, rfl⟩
        · exact absurd rfl hne
        · exact hq
    exact ⟨wp_loop_rounds _ key, fun d' hd => by cases hd; exact key⟩
  refine ⟨?_, fun d hd => absurd ⟨d, hd⟩ hl⟩
  cases c <;> simp only [evC] at h <;> first | (cases h; done) | skip
  case skip => cases h; exact wp_skip (self trivial)
  case region id ops draw =>
    simp only [codeOk, Bool.and_eq_true] at hc
    split at h
    · rename_i hd
      subst hd
      unfold drawn at h
      obtain ⟨⟨e1, s1⟩, h1, h⟩ := Option.bind_eq_some_iff.1 h
      simp only at h
      split at h
      · split at h
        · rename_i hf
          obtain rfl : e = .normal := fltGo_normal h
          exact draw_wp hm (by simpa using hc.2) (ops_ok hc.1) hfn hpf hH hS hp (.inr h)
        · rename_i hf
          cases h
          exact draw_wp hm (by simpa using hc.2) (ops_ok hc.1) hfn hpf hH hS hp (.inl ⟨by simpa using hf, h1⟩)
      · exact draw_wpP hm (by simpa using hc.2) (ops_ok hc.1) hfn hpf hH hS hp h
      · cases h
    · rename_i hd
      simp only [Bool.not_eq_true] at hd
      subst hd
      refine wp_region ?_
      have := evOps_wp (dq := false) hfn hpf (ops_ok hc.1) ops.toList 0 (by simp) hH hS hp h
      rw [List.range_eq_range']
      simpa using this
  case seq x y =>
    simp only [codeOk, Bool.and_eq_true] at hc
    obtain ⟨e1, s1, h1, h⟩ := andThen_pre h
    refine wp_seq (wp_mono (hrec _ _ _ _ _ _ h1 hc.1 hp M a w hH hS).1 fun e' a1 w1 hq => then_post hq ?_ ?_)
    · rintro rfl ⟨M1, g1, g2, g3, _, g5⟩
      rcases h with ⟨_, h⟩ | ⟨hne, _⟩
      · exact wp_mono (hrec _ _ _ _ _ N h hc.2 (by have := (hpre _ _ _ _ _ h1 hp).1; omega) M1 a1 w1 g2 g3).1 fun _ _ _ hq => hq.trans g1 g5
      · exact absurd rfl hne
    · intro hne
      rcases h with ⟨rfl, h⟩ | ⟨_, rfl, rfl⟩
      · exact absurd rfl hne
      · exact hq
  case cond c x y =>
    simp only [codeOk, Bool.and_eq_true] at hc
    split at h
    · rename_i t ht
      have hv := hS.eval hc.1.1
      rw [ht] at hv
      refine wp_cond ((vr_flat rfl).1 hv) ?_
      cases t with
      | true => exact (hrec _ _ _ _ _ _ h hc.1.2 hp M a w hH hS).1
      | false => exact (hrec _ _ _ _ _ _ h hc.2 hp M a w hH hS).1
    · cases h
  case block id c =>
    simp only [codeOk] at hc
    obtain ⟨⟨e1, s1⟩, h1, h⟩ := Option.bind_eq_some_iff.1 h
    simp only at h
    refine wp_block (wp_mono (hrec _ _ _ _ _ _ h1 hc hp M a w hH hS).1 fun e' a1 w1 hq => ?_)
    obtain ⟨M', g1, g2, g3, g4, g5⟩ := hq
    split at h
    · rename_i i
      cases e' <;> first | exact g4.elim | skip
      rename_i j
      cases (show i = j from g4)
      simp only [Exit.inBlock]
      split at h
      · rename_i hid
        cases h
        rw [if_pos hid]
        exact ⟨M', g1, g2, g3, trivial, g5⟩
      · rename_i hid
        cases h
        rw [if_neg hid]
        exact ⟨M', g1, g2, g3, rfl, g5⟩
    · rename_i hne
      cases h
      cases e' with
      | exit j =>
        cases e <;> first | exact g4.elim | skip
        exact absurd rfl (hne _)
      | _ => exact ⟨M', g1, g2, g3, g4, g5⟩
  case loop d => exact absurd ⟨d, rfl⟩ hl
  case exit id => cases h; exact wp_exit (self rfl)
  case ret => cases h; exact wp_ret (self trivial)
  case label l => cases h; exact wp_label (self trivial)
  case goto l => cases h; exact wp_goto (self rfl)
  case scope c =>
    simp only [codeOk] at hc
    intro b k cs
    obtain ⟨e', a1, w1, hq, harr⟩ := scope_sound hrec hpre hc m c s h hc hp M a w hH hS b k cs
    exact ⟨e', a1, w1, hq, .of_steps (.one step_scope) harr⟩
def resRun (tmps : Array Value) : ResultVar → Sem Value
  | .tmp t => .pure (tmps.getD t undef)
  | .cell x t => (asAddr (tmps.getD x undef)).bind fun b => loadVar t b
theorem res1_sim (hH : HR N0 W0 M s.H w) (hS : SR M N s a) {r : ResultVar} {v : Value} (h : res1 P s r = some v) :
    ∃ v', (resRun a.tmps r).run P w = .ok v' w ∧ VR M v v' := by
  cases r with
  | tmp t => cases h; exact ⟨_, rfl, hS.t t⟩
  | cell x t =>
    simp only [res1] at h
    obtain ⟨v', h1, h2⟩ := load_sim (P := P) hH h (hS.t x)
    refine ⟨v', ?_, h2⟩
    have ht := hS.t x
    unfold ldA at h
    split at h
    · rename_i A off n hx
      rw [hx] at ht
      obtain ⟨b, base, ext, _, hc⟩ := vr_ptr.1 ht
      show ((asAddr (a.tmps.getD x undef)).bind fun b => loadVar t b).run P w = _
      rw [hc] at h1 ⊢
      exact h1
    · cases h
theorem resAll_sim (hH : HR N0 W0 M s.H w) (hS : SR M N s a) : ∀ {rs : List ResultVar} {vs : List Value}, resAll P s rs = some vs →
    ∃ vs', (rs.mapM (resRun a.tmps)).run P w = .ok vs' w ∧ VRL M vs vs'
  | [], vs, h => by cases h; exact ⟨[], rfl, vrl_nil.2 rfl⟩
  | r :: rs, vs, h => by
    rw [resAll] at h
    obtain ⟨v, h1, h⟩ := Option.bind_eq_some_iff.1 h
    obtain ⟨vs1, h2, h⟩ := Option.map_eq_some_iff.1 h
    cases h
    obtain ⟨v', k1, k2⟩ := res1_sim hH hS h1
    obtain ⟨vs', k3, k4⟩ := resAll_sim hH hS h2
    refine ⟨v' :: vs', ?_, vrl_cons2.2 ⟨k2, k4⟩⟩
    rw [List.mapM_cons]
    simp only [Sem.run_bind, k1, Result.andThen_ok, k3, Sem.run_pure]
theorem res_sim (hH : HR N0 W0 M s.H w) (hS : SR M N s a) {fn : Func} {v : Value} (h : resOf P fn.results s = some v) : ∃ v', (results fn a.tmps).run P w = .ok v' w ∧ VR M v v' := by
  unfold resOf at h
  obtain ⟨vs, h1, h⟩ := Option.map_eq_some_iff.1 h
  obtain ⟨vs', k1, k2⟩ := resAll_sim hH hS h1
  have hrun : (results fn a.tmps).run P w = .ok (if h : vs'.toArray.size = 1 then vs'.toArray[0] else .tuple vs'.toArray) w := by
    have : results fn a.tmps = (do let vs ← fn.results.mapM (resRun a.tmps); pure (if h : vs.size = 1 then vs[0] else .tuple vs) : Sem Value) := rfl
    rw [this, Array.mapM_eq_mapM_toList]
    simp only [Sem.run_bind, Sem.run_map, k1, Result.andThen_ok, Sem.run_pure]
  refine ⟨_, hrun, ?_⟩
  have hlen := vrl_len k2
  subst h
  match vs, vs', k2, hlen with
  | [], [], _, _ => exact vr_tuple.2 ⟨#[], rfl, vrl_nil.2 rfl⟩
  | [v], [v'], k2, _ => exact (vrl_cons2.1 k2).1
  | x :: y :: l, x' :: y' :: l', k2, _ =>
    refine vr_tuple.2 ⟨_, ?_, k2⟩
    simp
end Go.AM

namespace Go.AM
open Go
open Go.RowKit (Below)
variable {P : Program} {N0 : Nat} {W0 : World} {cl : FuncId → Nat} {rec : Ru} {prot N : Nat} {M : Mp} {w : World} {s s' : St} {a : Act} {e : Exit}
def MR (M : Mp) (u : Md) (m : FrameMode) : Prop := match u, m with
  | none, .returning => True
  | some ch, .panicking ch' => CR M ch ch'
  | _, _ => False
theorem MR.mono {M M' : Mp} (hM : Mle M M') {u : Md} {m : FrameMode} (h : MR M u m) : MR M' u m := by
  unfold MR at *
  cases u <;> cases m <;> first | exact h | exact h.elim | exact CR.mono hM h
theorem cr_append {M : Mp} : ∀ {a b c d : List PanicEntry}, CR M a b → CR M c d → CR M (a ++ c) (b ++ d)
  | [], b, c, d, h, k => by rw [CR] at h; subst h; exact k
  | x :: a, b, c, d, h, k => by
    rw [CR] at h
    obtain ⟨y, ys, rfl, h1, h2, h3, h4⟩ := h
    rw [List.cons_append, List.cons_append, CR]
    exact ⟨y, _, rfl, h1, h2, h3, cr_append h4 k⟩
theorem cr_drop {M : Mp} : ∀ {a b : List PanicEntry}, CR M a b → CR M (a.dropWhile (fun x => !x.goexit)) (b.dropWhile (fun x => !x.goexit))
  | [], b, h => by rw [CR] at h; subst h; rw [List.dropWhile_nil, CR]
  | x :: a, b, h => by
    rw [CR] at h
    obtain ⟨y, ys, rfl, h1, h2, h3, h4⟩ := h
    rw [List.dropWhile_cons, List.dropWhile_cons, h3]
    split
    · exact cr_drop h4
    · rw [CR]; exact ⟨y, ys, rfl, h1, h2, h3, h4⟩
theorem mr_settle {M : Mp} {u : Md} {m : FrameMode} (h : MR M u m) : MR M (settleA u) (settle m) := by
  cases u with
  | none =>
    cases m <;> first | exact h.elim | exact trivial
  | some ch =>
    cases m with
    | run => exact h.elim
    | returning => exact h.elim
    | panicking ch' =>
      have h' : CR M ch ch' := h
      cases ch with
      | nil =>
        rw [CR] at h'; subst h'
        show CR M [] []
        rw [CR]
      | cons x xs =>
        rw [CR] at h'
        obtain ⟨⟨yv, yr, yg⟩, ys, rfl, h1, h2, h3, h4⟩ := h'
        simp only at h2
        unfold settleA settle
        simp only
        cases hr : x.recovered with
        | false =>
          rw [hr] at h2; subst h2
          simp only [Bool.false_eq_true, if_false]
          show CR M _ _
          rw [CR]
          exact ⟨_, _, rfl, h1, hr.symm, h3, h4⟩
        | true =>
          rw [hr] at h2; subst h2
          simp only [if_true]
          have hd := cr_drop h4
          cases hx : xs.dropWhile (fun x => !x.goexit) with
          | nil =>
            rw [hx, CR] at hd
            rw [hd]
            exact trivial
          | cons z zs =>
            rw [hx] at hd
            have hd' := hd
            rw [CR] at hd
            obtain ⟨y2, ys2, e2, _⟩ := hd
            rw [e2] at hd' ⊢
            exact hd'
theorem mr_raised {M : Mp} {u : Md} {m : FrameMode} (h : MR M u m) {ch ch' : List PanicEntry} (hc : CR M ch ch') : MR M (raisedA u ch) (raised m ch') := by
  cases u with
  | none => cases m <;> first | exact h.elim | exact hc
  | some old => cases m <;> first | exact h.elim | exact cr_append hc h
theorem rec_sim {M : Mp} {u : Md} {c0 : Frame} {cs : List Frame} (h : MR M u c0.mode) :
    (∃ v' m', recoverD (c0 :: cs) = some (v', { c0 with mode := m' } :: cs) ∧ VR M (recA u).1 v' ∧ MR M (recA u).2 m') ∨ (recoverD (c0 :: cs) = none ∧ recA u = (.nilIface, u)) := by
  cases u with
  | none =>
    right
    refine ⟨?_, rfl⟩
    unfold recoverD
    simp only
    split
    · rename_i hm
      rw [hm] at h
      exact h.elim
    · rfl
  | some ch =>
    cases hm : c0.mode with
    | run => rw [hm] at h; exact h.elim
    | returning => rw [hm] at h; exact h.elim
    | panicking ch' =>
      rw [hm] at h
      have h' : CR M ch ch' := h
      cases ch with
      | nil =>
        rw [CR] at h'; subst h'
        right
        exact ⟨by unfold recoverD; simp only [hm], rfl⟩
      | cons x xs =>
        rw [CR] at h'
        obtain ⟨⟨yv, yr, yg⟩, ys, rfl, h1, h2, h3, h4⟩ := h'
        obtain ⟨xv, xr, xg⟩ := x
        simp only at h1 h2 h3
        subst h2 h3
        cases yr with
        | true =>
          right
          exact ⟨by unfold recoverD; simp only [hm], rfl⟩
        | false =>
          cases yg with
          | true =>
            right
            exact ⟨by unfold recoverD; simp only [hm], rfl⟩
          | false =>
            left
            refine ⟨yv, .panicking (⟨yv, true, false⟩ :: ys), ?_, h1, ?_⟩
            · unfold recoverD
              simp only [hm]
            · show CR M (⟨xv, true, false⟩ :: xs) (⟨yv, true, false⟩ :: ys)
              rw [CR]
              exact ⟨_, _, rfl, h1, rfl, rfl, h4⟩
def PostS (N0 : Nat) (W0 : World) (prot N : Nat) (M : Mp) (w : World) (c0 : Frame) (cs : List Frame) (r : Exit × Md × St) : Exit → Act → List Frame → World → Prop := fun e' a' cs' w' =>
  ∃ M' m', Mle M M' ∧ HR N0 W0 M' r.2.2.H w' ∧ SR M' N r.2.2 a' ∧ XR M' r.1 e' ∧ Kp prot M M' w w' ∧ cs' = { c0 with mode := m' } :: cs ∧ MR M' r.2.1 m'
theorem wpS_mono {c : Code} {Q Q' : Exit → Act → List Frame → World → Prop} {cs : List Frame} (h : c.wpS P Q a cs w) (hq : ∀ e a cs w, Q e a cs w → Q' e a cs w) : c.wpS P Q' a cs w :=
  fun b k hb hr => let ⟨e, a', cs', w', q, r⟩ := h b k hb hr; ⟨e, a', cs', w', hq _ _ _ _ q, r⟩
theorem run_recover {o : Oper} (h : isRec o.op = true) (a : Act) (w : World) : (execOp a.eval o).run P w = .ok .recover w := by
  obtain ⟨dst, op, type, pos, after, guard⟩ := o
  unfold isRec at h
  cases op with
  | call c =>
    obtain ⟨callee, args, tys⟩ := c
    cases callee with
    | builtin b =>
      cases b with
      | recover =>
        have ha : args = #[] := by
          have : (args.size == 0) = true := h
          simpa using this
        subst ha
        rfl
      | _ => cases h
    | _ => cases h
  | _ => cases h
theorem none_sound : FnSound P N0 W0 cl (fun _ _ _ _ => none) := fun _ _ _ _ _ _ h => by cases h
theorem none_pre : FnPre cl (fun _ _ _ _ => none) := fun _ _ _ _ _ _ h => by cases h
theorem evOpsS_pre {ops : Array Oper} : ∀ {l : List Oper} {u : Md} {s : St} {r : Exit × Md × St}, evOpsS P cl prot ops l u s = some r → prot ≤ s.H.length → Pr prot s.H r.2.2.H
  | [], u, s, r, h, hp => by cases h; exact .refl _ _
  | o :: l, u, s, r, h, hp => by
    rw [evOpsS] at h
    obtain ⟨b, hb, h⟩ := Option.bind_eq_some_iff.1 h
    cases b with
    | true =>
      simp only [if_true] at h
      split at h
      · have := evOpsS_pre h (by rw [St.put_H]; exact hp)
        rwa [St.put_H] at this
      · obtain ⟨⟨e1, s1⟩, h1, h⟩ := Option.bind_eq_some_iff.1 h
        have k1 := evOp_pre none_pre h1 hp
        simp only at h
        split at h
        · exact k1.trans (evOpsS_pre h (by have := k1.1; omega))
        · cases h; exact k1
    | false =>
      simp only [Bool.false_eq_true, if_false] at h
      have := evOpsS_pre h (by rw [St.put_H]; exact hp)
      rwa [St.put_H] at this
theorem evS_pre (hrec : RuPre rec) : ∀ (c : Code) {u : Md} {s : St} {r : Exit × Md × St}, evS P cl rec prot c u s = some r → prot ≤ s.H.length → Pr prot s.H r.2.2.H := by
  have base : ∀ (c : Code) {u : Md} {s : St} {r : Exit × Md × St}, ((rec c prot s).map fun r => (r.1, u, r.2)) = some r → prot ≤ s.H.length → Pr prot s.H r.2.2.H := by
    intro c u s r h hp
    obtain ⟨⟨e1, s1⟩, h1, h⟩ := Option.map_eq_some_iff.1 h
    cases h
    exact hrec _ _ _ _ _ h1 hp
  intro c
  induction c with
  | seq a b iha ihb =>
    intro u s r h hp
    rw [evS] at h
    obtain ⟨⟨e1, u1, s1⟩, h1, h⟩ := Option.bind_eq_some_iff.1 h
    have k1 := iha h1 hp
    simp only at h k1
    split at h
    · exact k1.trans (ihb h (by have := k1.1; omega))
    · cases h; exact k1
  | cond c a b iha ihb =>
    intro u s r h hp
    rw [evS] at h
    split at h
    · split at h
      · exact iha h hp
      · exact ihb h hp
    · cases h
  | region i ops draw =>
    intro u s r h hp
    cases draw with
    | true => exact base _ h hp
    | false =>
      rw [evS] at h
      split at h
      · exact evOpsS_pre h hp
      · exact base _ h hp
  | _ => intro u s r h hp; exact base _ h hp
theorem PostS.trans {M1 : Mp} {w1 : World} {c0 : Frame} {cs : List Frame} {r : Exit × Md × St} {e' : Exit} {a' : Act} {cs' : List Frame} {w' : World} (h : PostS N0 W0 prot N M1 w1 c0 cs r e' a' cs' w') (hM : Mle M M1) (hk : Kp prot M M1 w w1) :
    PostS N0 W0 prot N M w c0 cs r e' a' cs' w' := by
  obtain ⟨M', m', h1, h2, h3, h4, h5, h6, h7⟩ := h
  exact ⟨M', m', hM.trans h1, h2, h3, h4, hk.trans h5, h6, h7⟩
theorem upon_mono {o : Oper} {a : Act} {K K' : Act → World → Prop} {Q Q' : Exit → Act → World → Prop} (hk : ∀ a w, K a w → K' a w) (hq : ∀ e a w, Q e a w → Q' e a w) {r : Result Next} (h : o.upon P a K Q r) : o.upon P a K' Q' r := by
  unfold Oper.upon at h ⊢
  split at h <;> first | exact hk _ _ h | exact hq _ _ _ h | exact h.elim | skip
  · refine Calls.mono h fun e w h => ?_
    cases e with
    | returned v => exact hk _ _ h
    | panicked ch => exact hq _ _ _ h
    | outgrown => obtain ⟨a0, w0, h0⟩ := h; exact ⟨a0, w0, hq _ _ _ h0⟩
  · intro b cs
    obtain ⟨v, w1, h1, h2⟩ := h b cs
    exact ⟨v, w1, hk _ _ h1, h2⟩
theorem wpOpsS_mono {ops : Array Oper} {Q Q' : Exit → Act → List Frame → World → Prop} (hq : ∀ e a cs w, Q e a cs w → Q' e a cs w) : ∀ {l : List Nat} {a : Act} {cs : List Frame} {w : World}, wpOpsS P ops Q l a cs w → wpOpsS P ops Q' l a cs w
  | [], _, _, _, h => hq _ _ _ _ h
  | i :: l, a, cs, w, h => by
    rw [wpOpsS] at h ⊢
    split at h
    · exact wpOpsS_mono hq h
    · split at h
      · rename_i hw
        rw [if_pos hw]
        split at h
        · split at h
          · exact wpOpsS_mono hq h
          · exact wpOpsS_mono hq h
        · exact upon_mono (fun a w h => wpOpsS_mono hq h) (fun e a w h => hq _ _ _ _ h) h
      · rename_i hw
        rw [if_neg hw]
        exact wpOpsS_mono hq h
theorem evOpsS_wp {ops : Array Oper} (hok : ∀ o ∈ ops.toList, operOk N o = true) {c0 : Frame} {cs : List Frame} :
    ∀ (l : List Oper) (k : Nat) {M : Mp} {w : World} {u : Md} {m : FrameMode} {s : St} {a : Act} {r : Exit × Md × St}, ops.toList.drop k = l → HR N0 W0 M s.H w → SR M N s a → MR M u m → prot ≤ s.H.length →
      evOpsS P cl prot ops l u s = some r → wpOpsS P ops (PostS N0 W0 prot N M w c0 cs r) (List.range' k l.length) a ({ c0 with mode := m } :: cs) w
  | [], k, M, w, u, m, s, a, r, hl, hH, hS, hm, hp, h => by
    cases h
    exact ⟨M, m, .refl _, hH, hS, trivial, .refl _ _ _, rfl, hm⟩
  | o :: l, k, M, w, u, m, s, a, r, hl, hH, hS, hm, hp, h => by
    have hk : ops[k]? = some o := by
      have : (ops.toList.drop k)[0]? = some o := by rw [hl]; rfl
      rw [List.getElem?_drop] at this
      simpa using this
    have hl' : ops.toList.drop (k + 1) = l := by
      have : (ops.toList.drop k).drop 1 = l := by rw [hl]; rfl
      rw [List.drop_drop] at this
      exact this
    have ho : operOk N o = true := hok o (by
      have := List.mem_of_getElem? (l := ops.toList) (i := k) (by simpa using hk)
      exact this)
    rw [List.length_cons, List.range'_succ, wpOpsS]
    rw [hk]
    simp only
    rw [evOpsS] at h
    obtain ⟨b, hb, h⟩ := Option.bind_eq_some_iff.1 h
    rw [want_sim (fun d _ => hS.t d) hb]
    cases b with
    | true =>
      simp only [if_true] at h ⊢
      by_cases hr : isRec o.op = true
      · rw [if_pos hr] at h
        rw [run_recover hr]
        simp only
        rcases rec_sim (c0 := { c0 with mode := m }) (cs := cs) hm with ⟨v', m', e1, e2, e3⟩ | ⟨e1, e2⟩
        · rw [e1]
          simp only
          exact evOpsS_wp hok l (k + 1) hl' (by rw [St.put_H]; exact hH) (hS.put (operOk_ops ho).2 e2) e3 (by rw [St.put_H]; exact hp) h
        · rw [e1]
          simp only
          rw [e2] at h
          exact evOpsS_wp hok l (k + 1) hl' (by rw [St.put_H]; exact hH) (hS.put (operOk_ops ho).2 (vr_self rfl)) hm (by rw [St.put_H]; exact hp) h
      · rw [if_neg hr] at h
        obtain ⟨⟨e1, s1⟩, h1, h⟩ := Option.bind_eq_some_iff.1 h
        simp only at h
        have hp1 := (evOp_pre none_pre h1 hp).1
        have hw : o.wp P a w (fun a' w' => wpOpsS P ops (PostS N0 W0 prot N M w c0 cs r) (List.range' (k + 1) l.length) a' ({ c0 with mode := m } :: cs) w') (fun e a' w' => PostS N0 W0 prot N M w c0 cs r e a' ({ c0 with mode := m } :: cs) w') := by
          refine evOp_wp none_sound hH hS ho h1 hp ?_ ?_
          · rintro rfl a1 w1 ⟨M1, g1, g2, g3, _, g5⟩
            simp only at h
            have := evOpsS_wp (c0 := c0) (cs := cs) hok l (k + 1) hl' g2 g3 (hm.mono g1) (by omega) h
            exact wpOpsS_mono (fun e2 a2 cs2 w2 hq => hq.trans g1 g5) this
          · intro e2 a2 w2 hne hq
            have : r = (e1, u, s1) := by
              split at h
              · exact absurd rfl hne
              · cases h; rfl
            subst this
            obtain ⟨M1, g1, g2, g3, g4, g5⟩ := hq
            exact ⟨M1, m, g1, g2, g3, g4, g5, rfl, hm.mono g1⟩
        unfold Oper.wp at hw
        split
        · rename_i w' hrun
          rw [hrun] at hw
          exact hw.elim
        · exact hw
    | false =>
      simp only [Bool.false_eq_true, if_false] at h ⊢
      exact evOpsS_wp hok l (k + 1) hl' (by rw [St.put_H]; exact hH) (hS.put (operOk_ops ho).2 vr_undef_self) hm (by rw [St.put_H]; exact hp) h
theorem evS_wp {kk : Nat} (hrec : RuSound P N0 W0 cl kk rec) (hpre : RuPre rec) {c0 : Frame} {cs : List Frame} : ∀ (c : Code) {M : Mp} {w : World} {u : Md} {m : FrameMode} {s : St} {a : Act} {r : Exit × Md × St},
    evS P cl rec prot c u s = some r → codeOk cl N c = true → HR N0 W0 M s.H w → SR M N s a → MR M u m → prot ≤ s.H.length → c.wpS P (PostS N0 W0 prot N M w c0 cs r) a ({ c0 with mode := m } :: cs) w := by
  have base : ∀ (c : Code) {M : Mp} {w : World} {u : Md} {m : FrameMode} {s : St} {a : Act} {r : Exit × Md × St}, ((rec c prot s).map fun r => (r.1, u, r.2)) = some r → codeOk cl N c = true → HR N0 W0 M s.H w → SR M N s a → MR M u m → prot ≤ s.H.length →
      c.wpS P (PostS N0 W0 prot N M w c0 cs r) a ({ c0 with mode := m } :: cs) w := by
    intro c M w u m s a r h hc hH hS hm hp
    obtain ⟨⟨e1, s1⟩, h1, h⟩ := Option.map_eq_some_iff.1 h
    cases h
    refine wpS_of_wp (wp_mono (hrec _ _ _ _ _ _ h1 hc hp _ _ _ hH hS).1 fun e' a' w' hq => ?_)
    obtain ⟨M1, g1, g2, g3, g4, g5⟩ := hq
    exact ⟨M1, m, g1, g2, g3, g4, g5, rfl, hm.mono g1⟩
  intro c
  induction c with
  | seq x y ihx ihy =>
    intro M w u m s a r h hc hH hS hm hp
    simp only [codeOk, Bool.and_eq_true] at hc
    rw [evS] at h
    obtain ⟨⟨e1, u1, s1⟩, h1, h⟩ := Option.bind_eq_some_iff.1 h
    have k1 := (evS_pre hpre _ h1 hp).1
    simp only at h k1
    refine wpS_seq (wpS_mono (ihx h1 hc.1 hH hS hm hp) fun e' a' cs' w' hq => ?_)
    obtain ⟨M1, m1, g1, g2, g3, g4, g5, rfl, g7⟩ := hq
    have hne : e1 ≠ .normal → (e1, u1, s1) = r → Exit.thenS (y.wpS P (PostS N0 W0 prot N M w c0 cs r)) (PostS N0 W0 prot N M w c0 cs r) e' a' ({ c0 with mode := m1 } :: cs) w' := by
      intro hne hr
      subst hr
      have hq : PostS N0 W0 prot N M w c0 cs (e1, u1, s1) e' a' ({ c0 with mode := m1 } :: cs) w' := ⟨M1, m1, g1, g2, g3, g4, g5, rfl, g7⟩
      cases e' with
      | normal => cases e1 <;> first | exact absurd rfl hne | exact g4.elim
      | _ => exact hq
    cases e1 with
    | normal =>
      cases e' <;> first | exact g4.elim | skip
      show y.wpS P _ a' _ w'
      exact wpS_mono (ihy h hc.2 g2 g3 g7 (by omega)) fun e2 a2 cs2 w2 hq => hq.trans g1 g5
    | _ => exact hne (by simp) (Option.some.inj h)
  | cond c x y ihx ihy =>
    intro M w u m s a r h hc hH hS hm hp
    simp only [codeOk, Bool.and_eq_true] at hc
    rw [evS] at h
    have hv := hS.eval hc.1.1
    split at h
    · rename_i b hb
      rw [hb] at hv
      have hv' : a.eval c = .bool b := (vr_flat rfl).1 hv
      split at h
      · rename_i ht
        subst ht
        exact wpS_cond hv' (by rw [if_pos rfl]; exact ihx h hc.1.2 hH hS hm hp)
      · rename_i ht
        have : b = false := by cases b <;> simp_all
        subst this
        exact wpS_cond hv' (by rw [if_neg (by simp)]; exact ihy h hc.2 hH hS hm hp)
    · cases h
  | region i ops draw =>
    intro M w u m s a r h hc hH hS hm hp
    cases draw with
    | true => exact base _ h hc hH hS hm hp
    | false =>
      rw [evS] at h
      split at h
      · simp only [codeOk, Bool.and_eq_true] at hc
        have hok : ∀ o ∈ ops.toList, operOk N o = true := by
          have := hc.1
          rw [Array.all_eq_true_iff_forall_mem] at this
          exact fun o ho => this o (by simpa using ho)
        refine wpS_region ?_
        have := evOpsS_wp (c0 := c0) (cs := cs) hok ops.toList 0 (List.drop_zero ..) hH hS hm hp h
        rw [← List.range_eq_range', Array.length_toList] at this
        exact this
      · exact base _ h hc hH hS hm hp
  | _ => intro M w u m s a r h hc hH hS hm hp; exact base _ h hc hH hS hm hp
theorem args_rel' {args args' : Array Value} (h : VRL M args.toList args'.toList) (n : Nat) (i : Nat) : VR M (args.getD i undef) ((args' ++ Array.replicate n undef).getD i undef) := by
  have hl := vrl_len h
  simp only [Array.length_toList] at hl
  simp only [Array.getD_eq_getD_getElem?, Array.getElem?_append, Array.getElem?_replicate]
  by_cases hi : i < args.size
  · rw [if_pos (by omega)]
    have := (vrl_iff.1 h).2 i args[i] args'[i] (by simp [hi]) (by simp [show i < args'.size by omega])
    simpa [hi, show i < args'.size by omega] using this
  · rw [if_neg (by omega), Array.getElem?_eq_none (by omega)]
    split <;> exact vr_undef_self
def DSound (P : Program) (N0 : Nat) (W0 : World) (dfn : FuncId → Array Value → Md → Nat → Heap → Option (Ending × Md × Heap)) : Prop := ∀ f args u prot H e u' H', dfn f args u prot H = some (e, u', H') → Taken P f ∧ (prot ≤ H.length → Pr prot H H' ∧
  ∀ M w args' m, HR N0 W0 M H w → VRL M args.toList args'.toList → MR M u m → CallsD P f args' m w fun e' m' w' => ∃ M', Mle M M' ∧ HR N0 W0 M' H' w' ∧ ER M' e e' ∧ MR M' u' m' ∧ Kp prot M M' w w')
theorem dfn_sound {X : FuncId → Option (Array Value → Nat → Heap → Option (Ending × Heap))} {kk : Nat} (hrec : RuSound P N0 W0 cl kk rec) (hpre : RuPre rec)
    (hbody : ∀ f, X f = none → cl f ≠ 0 → ∀ fn c, P.funcs[f]? = some fn → fn.body = some c → fn.name ≠ "runtime.NumGoroutine" ∧ codeOk cl fn.ntmps c = true) : DSound P N0 W0 (dfnA P cl X rec) := by
  intro f args u prot H e u' H' h
  unfold dfnA at h
  split at h
  · cases h
  · rename_i hX
    split at h
    · cases h
    · rename_i hcl
      obtain ⟨fn, hf, h⟩ := Option.bind_eq_some_iff.1 h
      obtain ⟨c, hb, h⟩ := Option.bind_eq_some_iff.1 h
      obtain ⟨hname, hok⟩ := hbody f hX hcl fn c hf hb
      obtain ⟨⟨e1, u1, s1⟩, h1, h⟩ := Option.bind_eq_some_iff.1 h
      refine ⟨⟨fn, hf, by simp [hb], hname⟩, fun hp => ⟨?_, fun M w args' m hH hv hm => ?_⟩⟩
      · have k := evS_pre hpre _ h1 hp
        simp only at h k
        split at h
        · obtain ⟨v, _, h⟩ := Option.map_eq_some_iff.1 h; cases h; exact k
        · obtain ⟨v, _, h⟩ := Option.map_eq_some_iff.1 h; cases h; exact k
        · cases h; exact k
        · cases h
      · have hS : SR M fn.ntmps { t := fun i => args.getD i undef, ds := [], H } { tmps := args' ++ Array.replicate (fn.ntmps - args'.size) undef, defers := [] } :=
          ⟨fun i => args_rel' hv _ i, by simp only [Array.size_append, Array.size_replicate]; omega, rfl⟩
        refine callsD_of_wpS hf hb fun c0 cs hc0 => ?_
        have hcc : c0 = { c0 with mode := m } := by rw [← hc0]
        have := evS_wp (c0 := c0) (cs := cs) hrec hpre c h1 hok hH hS hm hp
        rw [← hcc] at this
        refine wpS_mono this fun e' a' cs' w' hq => ?_
        obtain ⟨M1, m1, g1, g2, g3, g4, g5, g6, g7⟩ := hq
        simp only at h g2 g3 g4 g7
        have fin : ∀ (hd : s1.ds = []), a'.defers = [] := fun hd => by have := g3.d; rw [hd] at this; exact this
        have ret : s1.ds = [] → ((resOf P fn.results s1).map fun v => (Ending.returned v, u1, s1.H)) = some (e, u', H') → a'.defers = [] ∧ ∃ u'', cs' = { c0 with mode := u'' } :: cs ∧ ∃ v, (results fn a'.tmps).run P w' = .ok v w' ∧
            ∃ M', Mle M M' ∧ HR N0 W0 M' H' w' ∧ ER M' e (.returned v) ∧ MR M' u' u'' ∧ Kp prot M M' w w' := by
          intro hds hh
          obtain ⟨v, hv1, hh⟩ := Option.map_eq_some_iff.1 hh
          cases hh
          obtain ⟨v', k1, k2⟩ := res_sim g2 g3 hv1
          exact ⟨fin hds, m1, g6, v', k1, M1, g1, g2, k2, g7, g5⟩
        split at h
        · rename_i hds
          have := ret hds h
          cases e' <;> first | exact g4.elim | exact this
        · rename_i hds
          have := ret hds h
          cases e' <;> first | exact g4.elim | exact this
        · rename_i ch hds
          cases h
          cases e' <;> first | exact g4.elim | exact ⟨fin hds, m1, g6, M1, g1, g2, g4, g7, g5⟩
        · cases h
theorem enter_run {f : FuncId} {fn : Func} (hf : P.funcs[f]? = some fn) (hb : fn.body.isSome = true) (hn : fn.name ≠ "runtime.NumGoroutine") (args cap : Array Value) (w : World) : (invoke (.fn (.func f) cap) args).run P w = .ok (.enter f (args ++ cap)) w :=
  callFunc_run hf hb hn
theorem leave_pre {dfn : FuncId → Array Value → Md → Nat → Heap → Option (Ending × Md × Heap)} (hd : DSound P N0 W0 dfn) {rs : Array ResultVar} {t : Nat → Value} : ∀ {ds : List Deferred} {u : Md} {H H' : Heap} {e : Ending}, leaveA dfn P rs prot t ds u H = some (e, H') → prot ≤ H.length → Pr prot H H'
  | [], none, H, H', e, h, hp => by
    rw [leaveA] at h
    obtain ⟨v, _, h⟩ := Option.map_eq_some_iff.1 h
    cases h; exact .refl _ _
  | [], some ch, H, H', e, h, hp => by rw [leaveA] at h; cases h; exact .refl _ _
  | d :: ds, u, H, H', e, h, hp => by
    rw [leaveA] at h
    split at h
    · obtain ⟨⟨e1, u1, H1⟩, h1, h⟩ := Option.bind_eq_some_iff.1 h
      have k := ((hd _ _ _ _ _ _ _ _ h1).2 hp).1
      simp only at h
      split at h
      · exact k.trans (leave_pre hd h (by have := k.1; omega))
      · exact k.trans (leave_pre hd h (by have := k.1; omega))
      · cases h
    · cases h
theorem leave_sound {dfn : FuncId → Array Value → Md → Nat → Heap → Option (Ending × Md × Heap)} (hd : DSound P N0 W0 dfn) {fn : Func} {N : Nat} {t : Nat → Value} {tmps : Array Value} {M0 : Mp} {w0 : World} {R : Ending → World → Prop} {e : Ending} {H' : Heap}
    (hR : ∀ M' e' w', Mle M0 M' → HR N0 W0 M' H' w' → ER M' e e' → Kp prot M0 M' w0 w' → R e' w') :
    ∀ {ds ds' : List Deferred} {u : Md} {m : FrameMode} {H : Heap} {M : Mp} {w : World}, leaveA dfn P fn.results prot t ds u H = some (e, H') → prot ≤ H.length → Mle M0 M → Kp prot M0 M w0 w → HR N0 W0 M H w → DL M ds ds' → MR M u m → N ≤ tmps.size → (∀ i, VR M (t i) (tmps.getD i undef)) →
      Leaves P fn tmps R ds' m w
  | [], ds', none, m, H, M, w, h, hp, hM, hK, hH, hdl, hm, hN, ht => by
    rw [DL] at hdl
    subst hdl
    rw [leaveA] at h
    obtain ⟨v, hv, h⟩ := Option.map_eq_some_iff.1 h
    cases h
    have hS : SR M N ⟨t, [], H'⟩ { tmps, defers := [] } := ⟨ht, hN, rfl⟩
    obtain ⟨v', k1, k2⟩ := res_sim (s := ⟨t, [], H'⟩) hH hS hv
    cases m <;> first | exact hm.elim | exact ⟨v', k1, hR _ _ _ hM hH k2 hK⟩
  | [], ds', some ch, m, H, M, w, h, hp, hM, hK, hH, hdl, hm, hN, ht => by
    rw [DL] at hdl
    subst hdl
    rw [leaveA] at h
    cases h
    cases m <;> first | exact hm.elim | exact hR _ _ _ hM hH hm hK
  | d :: ds, ds', u, m, H, M, w, h, hp, hM, hK, hH, hdl, hm, hN, ht => by
    rw [DL] at hdl
    obtain ⟨d', ds1, rfl, hdr, hdl⟩ := hdl
    obtain ⟨fv, cap, cap', e1, e2, e3, e4⟩ := hdr
    rw [leaveA] at h
    split at h
    · rename_i f cap0 htgt
      rw [e1] at htgt
      cases htgt
      obtain ⟨⟨e5, u1, H1⟩, h1, h⟩ := Option.bind_eq_some_iff.1 h
      obtain ⟨⟨fn2, k1, k2, k3⟩, k4⟩ := hd _ _ _ _ _ _ _ _ h1
      obtain ⟨k5, k6⟩ := k4 hp
      have hv : VRL M (d.args ++ cap).toList (d'.args ++ cap').toList := by
        rw [Array.toList_append, Array.toList_append]
        exact vrl_append e4 e3
      have hmr : m ≠ .run := by rintro rfl; cases u <;> exact hm.elim
      refine ⟨hmr, .func f, cap', f, d'.args ++ cap', e2, by rw [e2]; exact enter_run k1 k2 k3 _ _ _, ?_⟩
      intro c cs hc
      obtain ⟨e', u', w', fr, q, r1, r2, r3⟩ := k6 M w _ m hH hv hm c cs hc
      refine ⟨e', u', w', fr, ?_, r1, r2, r3⟩
      obtain ⟨M', g1, g2, g3, g4, g5⟩ := q
      simp only at h
      cases e5 with
      | returned v =>
        cases e' <;> first | exact g3.elim | skip
        exact leave_sound hd hR h (by have := k5.1; omega) (hM.trans g1) (hK.trans g5) g2 (hdl.mono g1) (mr_settle g4) hN fun i => vr_mono g1 (ht i)
      | panicked ch =>
        cases e' <;> first | exact g3.elim | skip
        exact leave_sound hd hR h (by have := k5.1; omega) (hM.trans g1) (hK.trans g5) g2 (hdl.mono g1) (mr_raised g4 g3) hN fun i => vr_mono g1 (ht i)
      | outgrown => cases h
    · cases h
def DPre (dfn : FuncId → Array Value → Md → Nat → Heap → Option (Ending × Md × Heap)) : Prop := ∀ f args u prot H e u' H', dfn f args u prot H = some (e, u', H') → prot ≤ H.length → Pr prot H H'
theorem dfn_pre {X : FuncId → Option (Array Value → Nat → Heap → Option (Ending × Heap))} (hpre : RuPre rec) : DPre (dfnA P cl X rec) := by
  intro f args u prot H e u' H' h hp
  unfold dfnA at h
  split at h
  · cases h
  · split at h
    · cases h
    · obtain ⟨fn, hf, h⟩ := Option.bind_eq_some_iff.1 h
      obtain ⟨c, hb, h⟩ := Option.bind_eq_some_iff.1 h
      obtain ⟨⟨e1, u1, s1⟩, h1, h⟩ := Option.bind_eq_some_iff.1 h
      have k := evS_pre hpre _ h1 hp
      simp only at h k
      split at h
      · obtain ⟨v, _, h⟩ := Option.map_eq_some_iff.1 h; cases h; exact k
      · obtain ⟨v, _, h⟩ := Option.map_eq_some_iff.1 h; cases h; exact k
      · cases h; exact k
      · cases h
theorem leave_pre' {dfn : FuncId → Array Value → Md → Nat → Heap → Option (Ending × Md × Heap)} (hd : DPre dfn) {rs : Array ResultVar} {t : Nat → Value} : ∀ {ds : List Deferred} {u : Md} {H H' : Heap} {e : Ending}, leaveA dfn P rs prot t ds u H = some (e, H') → prot ≤ H.length → Pr prot H H'
  | [], none, H, H', e, h, hp => by
    rw [leaveA] at h
    obtain ⟨v, _, h⟩ := Option.map_eq_some_iff.1 h
    cases h; exact .refl _ _
  | [], some ch, H, H', e, h, hp => by rw [leaveA] at h; cases h; exact .refl _ _
  | d :: ds, u, H, H', e, h, hp => by
    rw [leaveA] at h
    split at h
    · obtain ⟨⟨e1, u1, H1⟩, h1, h⟩ := Option.bind_eq_some_iff.1 h
      have k := hd _ _ _ _ _ _ _ _ h1 hp
      simp only at h
      split at h
      · exact k.trans (leave_pre' hd h (by have := k.1; omega))
      · exact k.trans (leave_pre' hd h (by have := k.1; omega))
      · cases h
    · cases h
end Go.AM

namespace Go.AM
open Go
open Go.RowKit (Below)
variable {P : Program} {N0 : Nat} {W0 : World} {cl : FuncId → Nat} {fn : Fn'} {rec : Ru} {prot N : Nat} {M : Mp} {w : World} {s s' : St} {a : Act} {e : Exit}
def ExtSound (P : Program) (N0 : Nat) (W0 : World) (f : FuncId) (g : Array Value → Nat → Heap → Option (Ending × Heap)) : Prop :=
  Taken P f ∧ ∀ args prot H e H', g args prot H = some (e, H') → prot ≤ H.length → Pr prot H H' ∧ ∀ M w args', HR N0 W0 M H w → VRL M args.toList args'.toList →
    Calls P f args' w fun e' w' => ∃ M', Mle M M' ∧ HR N0 W0 M' H' w' ∧ ER M' e e' ∧ Kp prot M M' w w'
structure Good (P : Program) (N0 : Nat) (W0 : World) (cl : FuncId → Nat) (X : Exts) : Prop where
  mixed : P.follows .mixedOrders = true
  ext : ∀ f g, X f = some g → ExtSound P N0 W0 f g
  body : ∀ f, X f = none → cl f ≠ 0 → ∀ fn c, P.funcs[f]? = some fn → fn.body = some c → fn.name ≠ "runtime.NumGoroutine" ∧ codeOk cl fn.ntmps c = true
theorem finish_some {q : Bool} {rs : Array ResultVar} {H H' : Heap} {x : Option (Exit × St)} {e : Ending} (h : finish P q rs H x = some (e, H')) :
    ∃ e1 s1, x = some (e1, s1) ∧ s1.ds = [] ∧ (((e1 = .normal ∨ e1 = .ret) ∧ ∃ v, resOf P rs s1 = some v ∧ e = .returned v ∧ ((H' = s1.H) ∨ (q = true ∧ ground v = true ∧ H' = H))) ∨ (∃ ch, e1 = .panic ch ∧ e = .panicked ch ∧ H' = s1.H)) := by
  unfold finish at h
  obtain ⟨⟨e1, s1⟩, h1, h⟩ := Option.bind_eq_some_iff.1 h
  refine ⟨e1, s1, h1, ?_⟩
  have hv : ∀ {v : Value}, H' = (if (q && ground v) = true then H else s1.H) → (H' = s1.H) ∨ (q = true ∧ ground v = true ∧ H' = H) := by
    intro v hh
    split at hh
    · rename_i hq; simp only [Bool.and_eq_true] at hq; exact .inr ⟨hq.1, hq.2, hh⟩
    · exact .inl hh
  simp only at h
  split at h
  · rename_i hds
    obtain ⟨v, hv1, h⟩ := Option.map_eq_some_iff.1 h
    cases h
    exact ⟨hds, .inl ⟨.inl rfl, v, hv1, rfl, hv rfl⟩⟩
  · rename_i hds
    obtain ⟨v, hv1, h⟩ := Option.map_eq_some_iff.1 h
    cases h
    exact ⟨hds, .inl ⟨.inr rfl, v, hv1, rfl, hv rfl⟩⟩
  · rename_i hds
    cases h
    exact ⟨hds, .inr ⟨_, rfl, rfl, rfl⟩⟩
  · cases h
theorem args_rel {args args' : Array Value} (h : VRL M args.toList args'.toList) (n : Nat) (i : Nat) : VR M (args.getD i undef) ((args' ++ Array.replicate n undef).getD i undef) := by
  have hl := vrl_len h
  simp only [Array.length_toList] at hl
  simp only [Array.getD_eq_getD_getElem?, Array.getElem?_append, Array.getElem?_replicate]
  by_cases hi : i < args.size
  · rw [if_pos (by omega)]
    have := (vrl_iff.1 h).2 i args[i] args'[i] (by simp [hi]) (by simp [show i < args'.size by omega])
    simpa [hi, show i < args'.size by omega] using this
  · rw [if_neg (by omega), Array.getElem?_eq_none (by omega)]
    split <;> exact vr_undef_self
theorem bodyFn_pre {X : Exts} (G : Good P N0 W0 cl X) (hrec : RuPre rec) : FnPre cl (bodyFn P cl X rec) := by
  intro f args prot H e H' h hp
  unfold bodyFn at h
  have hp' : (if cl f = 1 then H.length else prot) ≤ H.length := by split <;> omega
  split at h
  · rename_i g hg
    have := ((G.ext f g hg).2 _ _ _ _ _ h hp').1
    exact this
  · split at h
    · cases h
    · obtain ⟨fn, hf, h⟩ := Option.bind_eq_some_iff.1 h
      obtain ⟨c, hb, h⟩ := Option.bind_eq_some_iff.1 h
      split at h
      · split at h
        · obtain ⟨⟨e1, H1⟩, h1, h⟩ := Option.bind_eq_some_iff.1 h
          simp only at h
          split at h
          · split at h <;> cases h
            exact Pr.refl _ _
          · cases h
        · cases h
      split at h
      · have hp5 : prot ≤ H.length := hp
        unfold finishD at h
        obtain ⟨⟨e1, s1⟩, h1, h⟩ := Option.bind_eq_some_iff.1 h
        have k1 := hrec _ _ _ _ _ h1 hp5
        have hd := dfn_pre (X := X) (P := P) (cl := cl) hrec
        have k2 : Pr prot s1.H H' := by
          simp only at h k1
          have hl := k1.1
          split at h
          · exact leave_pre' hd h (by omega)
          · exact leave_pre' hd h (by omega)
          · exact leave_pre' hd h (by omega)
          · cases h
        have h5 : ¬ cl f = 1 := by omega
        rw [if_neg h5]
        exact k1.trans k2
      obtain ⟨e1, s1, h1, _, h2⟩ := finish_some h
      have := hrec _ _ _ _ _ h1 hp'
      rcases h2 with ⟨_, v, _, _, h3 | ⟨_, _, h3⟩⟩ | ⟨ch, _, _, h3⟩
      · rw [h3]; exact this
      · rw [h3]; exact Pr.refl _ _
      · rw [h3]; exact this
theorem bodyFn_sound {X : Exts} {k : Nat} (G : Good P N0 W0 cl X) (hrec : RuSound P N0 W0 cl k rec) (hpre : RuPre rec) : FnSound P N0 W0 cl (bodyFn P cl X rec) := by
  intro f args prot H e H' h
  unfold bodyFn at h
  have hp' : prot ≤ H.length → (if cl f = 1 then H.length else prot) ≤ H.length := fun _ => by split <;> omega
  split at h
  · rename_i g hg
    have hX := G.ext f g hg
    exact ⟨hX.1, fun hp M w args' hH hv => (hX.2 _ _ _ _ _ h (hp' hp)).2 M w args' hH hv⟩
  · rename_i hX
    split at h
    · cases h
    · rename_i hcl
      obtain ⟨fn, hf, h⟩ := Option.bind_eq_some_iff.1 h
      obtain ⟨c, hb, h⟩ := Option.bind_eq_some_iff.1 h
      obtain ⟨hname, hok⟩ := G.body f hX hcl fn c hf hb
      refine ⟨⟨fn, hf, by simp [hb], hname⟩, fun hp M w args' hH hv => ?_⟩
      split at h
      · split at h
        · rename_i hg
          obtain ⟨⟨e0, H1⟩, h1, h⟩ := Option.bind_eq_some_iff.1 h
          simp only at h
          split at h
          · rename_i v
            split at h
            · rename_i hgv
              cases h
              have hH0 : HR N0 W0 (fun _ _ => none) [] w := ⟨hH.below, hH.n0, fun A n b base ext e => (by cases e), fun A n A' n' b base ext base' ext' e _ _ => (by cases e)⟩
              have hv0 : VRL (fun _ _ => none) args.toList args'.toList := by
                have hall : ∀ x ∈ args.toList, ground x = true := by
                  have := hg.1
                  rw [Array.all_eq_true_iff_forall_mem] at this
                  exact fun x hx => this x (by simpa using hx)
                rw [vrl_iff] at hv ⊢
                refine ⟨hv.1, fun i x y hx hy => (vr_ground (hall x (List.mem_of_getElem? hx))).2 ((vr_ground (hall x (List.mem_of_getElem? hx))).1 (hv.2 i x y hx hy))⟩
              obtain ⟨e1, s1, h1, hds, h2⟩ := finish_some h1
              have hS : SR (fun _ _ => none) fn.ntmps { t := fun i => args.getD i undef, ds := [], H := [] } { tmps := args' ++ Array.replicate (fn.ntmps - args'.size) undef, defers := [] } :=
                ⟨fun i => args_rel hv0 _ i, by simp only [Array.size_append, Array.size_replicate]; omega, rfl⟩
              refine calls_of_wp hf hb (wp_mono (hrec _ _ _ _ _ _ h1 hok (Nat.zero_le _) _ _ w hH0 hS).1 fun e' a' w' hq => ?_)
              obtain ⟨M', g1, g2, g3, g4, g5⟩ := hq
              have hd : a'.defers = [] := by have := g3.d; rw [hds] at this; exact this
              rcases h2 with ⟨hn, v', hv', e3, _⟩ | ⟨ch, _, e3, _⟩
              · cases e3
                obtain ⟨u, k1, k2⟩ := res_sim g2 g3 hv'
                have fin : a'.defers = [] ∧ ∃ v', (results fn a'.tmps).run P w' = .ok v' w' ∧ ∃ M', Mle M M' ∧ HR N0 W0 M' H w' ∧ ER M' (.returned v) (.returned v') ∧ Kp (if cl f = 1 then H.length else prot) M M' w w' := by
                  refine ⟨hd, u, k1, M, .refl _, ?_, (vr_ground hgv).2 ((vr_ground hgv).1 k2), ?_⟩
                  · exact hH.world (g5.blk w.heap.size (Nat.le_refl _) fun A n b base ext _ e => by cases e).1
                  · exact ⟨fun _ _ _ => rfl, fun B0 hB hM => ⟨(g5.blk B0 hB fun A n b base ext _ e => by cases e).1, hM⟩⟩
                rcases hn with rfl | rfl
                · cases e' <;> first | exact g4.elim | exact fin
                · cases e' <;> first | exact g4.elim | exact fin
              · cases e3
            · cases h
          · cases h
        · cases h
      split at h
      · rename_i hcl5
        have h5 : ¬ cl f = 1 := by omega
        rw [if_neg h5]
        unfold finishD at h
        obtain ⟨⟨e1, s1⟩, h1, h⟩ := Option.bind_eq_some_iff.1 h
        have hS : SR M fn.ntmps { t := fun i => args.getD i undef, ds := [], H } { tmps := args' ++ Array.replicate (fn.ntmps - args'.size) undef, defers := [] } :=
          ⟨fun i => args_rel hv _ i, by simp only [Array.size_append, Array.size_replicate]; omega, rfl⟩
        have hds := dfn_sound (X := X) hrec hpre G.body
        refine calls_of_wp_defers hf hb (wp_mono (hrec _ _ _ _ _ _ h1 hok hp M _ w hH hS).1 fun e' a' w' hq => ?_)
        obtain ⟨M', g1, g2, g3, g4, g5⟩ := hq
        have hpl : H.length ≤ s1.H.length := (hpre _ _ _ _ _ h1 hp).1
        have fin : ∀ (u : Md) (m : FrameMode), MR M' u m → leaveA (dfnA P cl X rec) P fn.results prot s1.t s1.ds u s1.H = some (e, H') → Leaves P fn a'.tmps (fun e' w' => ∃ M', Mle M M' ∧ HR N0 W0 M' H' w' ∧ ER M' e e' ∧ Kp prot M M' w w') a'.defers m w' :=
          fun u m hm hl => leave_sound (M0 := M) (w0 := w) hds (fun M2 e2 w2 r1 r2 r3 r4 => ⟨M2, r1, r2, r3, r4⟩) hl (by omega) g1 g5 g2 g3.d hm g3.n g3.t
        simp only at h g4
        split at h
        · have := fin none .returning trivial h
          cases e' <;> first | exact g4.elim | exact this
        · have := fin none .returning trivial h
          cases e' <;> first | exact g4.elim | exact this
        · cases e' <;> first | exact g4.elim | exact fin (some _) (.panicking _) g4 h
        · cases h
      obtain ⟨e1, s1, h1, hds, h2⟩ := finish_some h
      have hS : SR M fn.ntmps { t := fun i => args.getD i undef, ds := [], H } { tmps := args' ++ Array.replicate (fn.ntmps - args'.size) undef, defers := [] } :=
        ⟨fun i => args_rel hv _ i, by simp only [Array.size_append, Array.size_replicate]; omega, rfl⟩
      refine calls_of_wp hf hb (wp_mono (hrec _ _ _ _ _ _ h1 hok (hp' hp) M _ w hH hS).1 fun e' a' w' hq => ?_)
      obtain ⟨M', g1, g2, g3, g4, g5⟩ := hq
      have hd : a'.defers = [] := by have := g3.d; rw [hds] at this; exact this
      rcases h2 with ⟨hn, v, hv, rfl, h3⟩ | ⟨ch, rfl, rfl, rfl⟩
      · obtain ⟨v', k1, k2⟩ := res_sim g2 g3 hv
        have fin : a'.defers = [] ∧ ∃ v', (results fn a'.tmps).run P w' = .ok v' w' ∧ ∃ M', Mle M M' ∧ HR N0 W0 M' H' w' ∧ ER M' (.returned v) (.returned v') ∧ Kp (if cl f = 1 then H.length else prot) M M' w w' := by
          refine ⟨hd, v', k1, ?_⟩
          rcases h3 with rfl | ⟨hq, hg, rfl⟩
          · exact ⟨M', g1, g2, k2, g5⟩
          · have hq' : cl f = 1 := by simpa using hq
            rw [if_pos hq'] at g5 ⊢
            have hx := g5.ext fun _ _ _ e => hH.valid e
            exact ⟨M, .refl _, hH.world hx.below, (vr_ground hg).2 ((vr_ground hg).1 k2), ⟨fun _ _ _ => rfl, fun B0 hB hM => ⟨hx.below.mono hB, hM⟩⟩⟩
        rcases hn with rfl | rfl
        · cases e' <;> first | exact g4.elim | exact fin
        · cases e' <;> first | exact g4.elim | exact fin
      · cases e' <;> first | exact g4.elim | exact ⟨hd, M', g1, g2, g4, g5⟩
theorem evs_all {X : Exts} (G : Good P N0 W0 cl X) : ∀ k, RuSound P N0 W0 cl k (evs P cl X k).1 ∧ RuPre (evs P cl X k).1 ∧ FnSound P N0 W0 cl (evs P cl X k).2 ∧ FnPre cl (evs P cl X k).2
  | 0 => ⟨fun _ _ _ _ _ _ h => (by cases h), fun _ _ _ _ _ h => (by cases h), fun _ _ _ _ _ _ h => (by cases h), fun _ _ _ _ _ _ h => (by cases h)⟩
  | k + 1 => by
    obtain ⟨h1, h2, h3, h4⟩ := evs_all G k
    exact ⟨evC_sound G.mixed h3 h4 h1 h2, evC_pre h4 h2, bodyFn_sound G h1 h2, bodyFn_pre G h2⟩
theorem call_sound {X : Exts} (G : Good P N0 W0 cl X) {k : Nat} {f : FuncId} {args : Array Value} {H H' : Heap} {e : Ending} (h : (evs P cl X k).2 f args prot H = some (e, H')) (hp : prot ≤ H.length) {args' : Array Value} (hH : HR N0 W0 M H w)
    (hv : VRL M args.toList args'.toList) : Calls P f args' w fun e' w' => ∃ M', Mle M M' ∧ HR N0 W0 M' H' w' ∧ ER M' e e' ∧ Kp (if cl f = 1 then H.length else prot) M M' w w' :=
  ((evs_all G k).2.2.1 f args prot H e H' h).2 hp M w args' hH hv
end Go.AM

namespace Go.AM
open Go
variable {P : Program} {cl : FuncId → Nat} {X : Exts}
def Rle (r r' : Ru) : Prop := ∀ c p s x, r c p s = some x → r' c p s = some x
def Fle (f f' : Fn') : Prop := ∀ g a p H x, f g a p H = some x → f' g a p H = some x
theorem bind_mono {α β : Type} {a a' : Option α} {f f' : α → Option β} {y : β} (ha : ∀ x, a = some x → a' = some x) (hf : ∀ x, a = some x → ∀ y, f x = some y → f' x = some y) (h : a.bind f = some y) : a'.bind f' = some y := by
  obtain ⟨x, h1, h2⟩ := Option.bind_eq_some_iff.1 h
  exact Option.bind_eq_some_iff.2 ⟨x, ha x h1, hf x h1 y h2⟩
theorem andThen_mono {a a' : Option (Exit × St)} {f f' : St → Option (Exit × St)} {y : Exit × St} (ha : ∀ x, a = some x → a' = some x) (hf : ∀ s y, f s = some y → f' s = some y) (h : andThen a f = some y) : andThen a' f' = some y := by
  refine bind_mono ha (fun x _ y h => ?_) h
  split at h
  · exact hf _ _ h
  · exact h
theorem evOp_mono {fn fn' : Fn'} (hf : Fle fn fn') {dq : Bool} {prot : Nat} {o : Op} {d : Option Tmp} {s : St} {y : Exit × St} (h : evOp fn P cl dq prot o d s = some y) : evOp fn' P cl dq prot o d s = some y := by
  unfold evOp at h ⊢
  refine bind_mono (fun _ h => h) (fun r _ y h => ?_) h
  split at h
  · exact h
  · exact h
  · exact h
  · exact bind_mono (fun x h => hf _ _ _ _ _ h) (fun _ _ _ h => h) h
  · exact h
  · exact h
theorem evOps_mono {fn fn' : Fn'} (hf : Fle fn fn') {dq : Bool} {prot : Nat} {ops : Array Oper} : ∀ {l : List Oper} {s : St} {y : Exit × St}, evOps fn P cl dq prot ops l s = some y → evOps fn' P cl dq prot ops l s = some y
  | [], _, _, h => h
  | o :: l, s, y, h => by
    rw [evOps] at h ⊢
    refine bind_mono (fun _ h => h) (fun b _ y h => ?_) h
    cases b with
    | true => exact andThen_mono (fun _ h => evOp_mono hf h) (fun _ _ h => evOps_mono hf h) h
    | false => exact evOps_mono hf h
theorem evOpF_mono {fn fn' : Fn'} {fl : Bool} (hf : Fle fn fn') {prot : Nat} {o : Oper} {s : St} {y : Exit × St} (h : evOpF fl fn P cl prot o s = some y) : evOpF fl fn' P cl prot o s = some y := by
  unfold evOpF at h ⊢
  exact bind_mono (fun _ h => evOp_mono hf h) (fun _ _ _ h => h) h
theorem fltNext_mono {o : Op} {d : Option Nat} {t : Nat → Value} {ev : Operand → Value} {H : Heap} {pend : Pend} {go go' : Pend → Option (Exit × St)} {y : Exit × St} (hg : ∀ p y, go p = some y → go' p = some y) (h : fltNext P o d t ev H pend go = some y) : fltNext P o d t ev H pend go' = some y := by
  unfold fltNext at h ⊢
  split at h
  · rename_i T x k
    by_cases hh : ground (t k) = true
    · rw [if_pos hh] at h ⊢; exact hg _ _ h
    · rw [if_neg hh] at h; cases h
  · split
    · rename_i hw
      rw [if_pos hw] at h
      by_cases hh : chkF P pend H
      · rw [if_pos hh] at h ⊢; exact hg _ _ h
      · rw [if_neg hh] at h; cases h
    · rename_i hw
      rw [if_neg hw] at h
      exact hg _ _ h
theorem fltGo_mono {fn fn' : Fn'} (hf : Fle fn fn') {prot : Nat} {ops : Array Oper} : ∀ {l : List Oper} {pend : Pend} {s : St} {y : Exit × St}, fltGo fn P cl prot ops l pend s = some y → fltGo fn' P cl prot ops l pend s = some y
  | [], _, _, _, h => h
  | o :: l, pend, s, y, h => by
    rw [fltGo] at h ⊢
    refine bind_mono (fun _ h => h) (fun b _ y h => ?_) h
    cases b with
    | true =>
      refine bind_mono (fun _ h => evOp_mono hf h) (fun r _ y h => ?_) h
      obtain ⟨e1, s1⟩ := r
      cases e1 <;> first | exact fltNext_mono (fun _ _ h => fltGo_mono hf h) h | cases h
    | false => exact fltGo_mono hf h
theorem evRest_mono {fn fn' : Fn'} {fl : Bool} (hf : Fle fn fn') {prot : Nat} {ops : Array Oper} {k : Nat} : ∀ {l : List Oper} {i : Nat} {s y : St}, evRest fl fn P cl prot ops k l i s = some y → evRest fl fn' P cl prot ops k l i s = some y
  | [], _, _, _, h => h
  | o :: l, i, s, y, h => by
    rw [evRest] at h ⊢
    split at h
    · rename_i hb; rw [if_pos hb]; exact evRest_mono hf h
    · rename_i hb
      rw [if_neg hb]
      split at h
      · rename_i hc
        rw [if_pos hc]
        refine bind_mono (fun _ h => h) (fun b _ y h => ?_) h
        cases b with
        | true =>
          refine bind_mono (fun _ h => evOpF_mono hf h) (fun r _ y h => ?_) h
          obtain ⟨e1, s1⟩ := r
          cases e1 <;> first | exact evRest_mono hf h | cases h
        | false => exact evRest_mono hf h
      · cases h
theorem evDrop_mono {fn fn' : Fn'} {fl : Bool} (hf : Fle fn fn') {prot : Nat} {ops : Array Oper} : ∀ {l : List Oper} {i : Nat} {s : St} {y : Exit × St}, evDrop fl fn P cl prot ops l i s = some y → evDrop fl fn' P cl prot ops l i s = some y
  | [], _, _, _, h => h
  | o :: l, i, s, y, h => by
    rw [evDrop] at h ⊢
    refine bind_mono (fun _ h => h) (fun b _ y h => ?_) h
    cases b with
    | true =>
      refine bind_mono (fun _ h => evOpF_mono hf h) (fun r _ y h => ?_) h
      obtain ⟨e1, s1⟩ := r
      cases e1 <;> first | exact evDrop_mono hf h | (cases h; done) | skip
      obtain ⟨s2, h2, h⟩ := Option.map_eq_some_iff.1 h
      simp only [evRest_mono hf h2, Option.map_some, h]
    | false => exact evDrop_mono hf h
theorem drawn_mono {fn fn' : Fn'} (hf : Fle fn fn') {prot id : Nat} {ops : Array Oper} {s : St} {y : Exit × St} (h : drawn fn P cl prot id ops s (evOps fn P cl true prot ops ops.toList s) = some y) : drawn fn' P cl prot id ops s (evOps fn' P cl true prot ops ops.toList s) = some y := by
  unfold drawn at h ⊢
  refine bind_mono (fun _ h => evOps_mono hf h) (fun r _ y h => ?_) h
  obtain ⟨e1, s1⟩ := r
  cases e1
  case normal =>
    simp only at h ⊢
    split
    · rename_i hh; rw [if_pos hh] at h; exact fltGo_mono hf h
    · rename_i hh; rw [if_neg hh] at h; exact h
  all_goals first | exact h | exact evDrop_mono hf h
theorem scopeGo_mono {r r' : Ru} (hr : Rle r r') {prot : Nat} {c : Code} : ∀ {m m' : Nat} {cur : Code} {s : St} {y : Exit × St}, m ≤ m' → scopeGo r prot c m cur s = some y → scopeGo r' prot c m' cur s = some y
  | 0, _, _, _, _, _, h => by cases h
  | m + 1, 0, _, _, _, hm, h => by omega
  | m + 1, m' + 1, cur, s, y, hm, h => by
    rw [scopeGo] at h ⊢
    refine bind_mono (fun x h => hr _ _ _ _ h) (fun x _ y h => ?_) h
    obtain ⟨e, s1⟩ := x
    cases e with
    | goto l =>
      simp only at h ⊢
      cases hl : findLabel c l with
      | some rest => rw [hl] at h; exact scopeGo_mono hr (by omega) h
      | none => rw [hl] at h; exact h
    | _ => exact h
theorem evC_mono {fn fn' : Fn'} {r r' : Ru} {m m' : Nat} (hf : Fle fn fn') (hr : Rle r r') (hm : m ≤ m') : Rle (fun c p s => evC fn P cl m r p c s) (fun c p s => evC fn' P cl m' r' p c s) := by
  intro c p s y h
  change evC fn P cl m r p c s = _ at h
  change evC fn' P cl m' r' p c s = _
  cases c <;> simp only [evC] at h ⊢ <;> first | exact h | skip
  case region id ops draw =>
    split at h
    · rename_i hd
      rw [if_pos hd]
      exact drawn_mono hf h
    · rename_i hd
      rw [if_neg hd]
      exact evOps_mono hf h
  case seq a b => exact andThen_mono (fun _ h => hr _ _ _ _ h) (fun _ _ h => hr _ _ _ _ h) h
  case cond c a b =>
    split at h
    · split at h
      · rename_i ht; rw [if_pos ht]; exact hr _ _ _ _ h
      · rename_i ht; rw [if_neg ht]; exact hr _ _ _ _ h
    · cases h
  case block id c => exact bind_mono (fun _ h => hr _ _ _ _ h) (fun _ _ _ h => h) h
  case loop c => exact andThen_mono (fun _ h => hr _ _ _ _ h) (fun _ _ h => hr _ _ _ _ h) h
  case scope c => exact scopeGo_mono hr hm h
theorem evS_mono {r r' : Ru} (hr : Rle r r') {prot : Nat} : ∀ {c : Code} {u : Md} {s : St} {y : Exit × Md × St}, evS P cl r prot c u s = some y → evS P cl r' prot c u s = some y := by
  have base : ∀ (c : Code) {u : Md} {s : St} {y : Exit × Md × St}, ((r c prot s).map fun r => (r.1, u, r.2)) = some y → ((r' c prot s).map fun r => (r.1, u, r.2)) = some y := by
    intro c u s y h
    obtain ⟨x, h1, h2⟩ := Option.map_eq_some_iff.1 h
    exact Option.map_eq_some_iff.2 ⟨x, hr _ _ _ _ h1, h2⟩
  intro c
  induction c with
  | seq a b iha ihb =>
    intro u s y h
    rw [evS] at h ⊢
    refine bind_mono (fun _ h => iha h) (fun x _ y h => ?_) h
    split at h
    · exact ihb h
    · exact h
  | cond c a b iha ihb =>
    intro u s y h
    rw [evS] at h ⊢
    split at h
    · rename_i ht
      (try simp only [ht])
      split at h
      · rename_i hb; rw [if_pos hb]; exact iha h
      · rename_i hb; rw [if_neg hb]; exact ihb h
    · cases h
  | region i ops draw =>
    intro u s y h
    cases draw with
    | true => exact base _ h
    | false =>
      rw [evS] at h ⊢
      split at h
      · rename_i hb; rw [if_pos hb]; exact h
      · rename_i hb; rw [if_neg hb]; exact base _ h
  | _ => intro u s y h; exact base _ h
abbrev Dfn := FuncId → Array Value → Md → Nat → Heap → Option (Ending × Md × Heap)
def Dle (d d' : Dfn) : Prop := ∀ f a u p H x, d f a u p H = some x → d' f a u p H = some x
theorem dfnA_mono {r r' : Ru} (hr : Rle r r') : Dle (dfnA P cl X r) (dfnA P cl X r') := by
  intro f a u p H y h
  unfold dfnA at h ⊢
  split at h
  · cases h
  · split at h
    · cases h
    · rename_i hc
      rw [if_neg hc]
      refine bind_mono (fun _ h => h) (fun fn _ y h => ?_) h
      refine bind_mono (fun _ h => h) (fun c _ y h => ?_) h
      exact bind_mono (fun _ h => evS_mono hr h) (fun _ _ _ h => h) h
theorem leaveA_mono {d d' : Dfn} (hd : Dle d d') {rs : Array ResultVar} {p : Nat} {t : Nat → Value} : ∀ {ds : List Deferred} {u : Md} {H : Heap} {y : Ending × Heap}, leaveA d P rs p t ds u H = some y → leaveA d' P rs p t ds u H = some y
  | [], none, _, _, h => h
  | [], some _, _, _, h => h
  | x :: ds, u, H, y, h => by
    rw [leaveA] at h ⊢
    split at h
    · refine bind_mono (fun _ h => hd _ _ _ _ _ _ h) (fun r _ y h => ?_) h
      split at h
      · exact leaveA_mono hd h
      · exact leaveA_mono hd h
      · cases h
    · cases h
theorem finishD_mono' {d d' : Dfn} (hd : Dle d d') {rs : Array ResultVar} {p : Nat} {x x' : Option (Exit × St)} (hx : ∀ z, x = some z → x' = some z) {y : Ending × Heap} (h : finishD d P rs p x = some y) : finishD d' P rs p x' = some y := by
  unfold finishD at h ⊢
  refine bind_mono hx (fun r _ y h => ?_) h
  split at h
  · exact leaveA_mono hd h
  · exact leaveA_mono hd h
  · exact leaveA_mono hd h
  · cases h
theorem bodyFn_mono {r r' : Ru} (hr : Rle r r') : Fle (bodyFn P cl X r) (bodyFn P cl X r') := by
  intro f a p H y h
  unfold bodyFn at h ⊢
  split at h
  · exact h
  · split at h
    · cases h
    · rename_i hc
      rw [if_neg hc]
      refine bind_mono (fun _ h => h) (fun fn _ y h => ?_) h
      refine bind_mono (fun _ h => h) (fun c _ y h => ?_) h
      split at h
      · rename_i hpu
        rw [if_pos hpu]
        split at h
        · rename_i hg
          rw [if_pos hg]
          refine bind_mono (fun _ h => ?_) (fun _ _ _ h => h) h
          unfold finish at h ⊢
          exact bind_mono (fun _ h => hr _ _ _ _ h) (fun _ _ _ h => h) h
        · cases h
      rename_i hpu
      rw [if_neg hpu]
      split at h
      · rename_i h5
        rw [if_pos h5]
        exact finishD_mono' (dfnA_mono hr) (fun _ h => hr _ _ _ _ h) h
      rename_i h5
      rw [if_neg h5]
      unfold finish at h ⊢
      exact bind_mono (fun _ h => hr _ _ _ _ h) (fun _ _ _ h => h) h
theorem evs_succ (k : Nat) : Rle (evs P cl X k).1 (evs P cl X (k + 1)).1 ∧ Fle (evs P cl X k).2 (evs P cl X (k + 1)).2 := by
  induction k with
  | zero => exact ⟨fun _ _ _ _ h => (by cases h), fun _ _ _ _ _ h => (by cases h)⟩
  | succ k ih => exact ⟨evC_mono ih.2 ih.1 (Nat.le_succ k), bodyFn_mono ih.1⟩
theorem evs_le {i j : Nat} (h : i ≤ j) : Rle (evs P cl X i).1 (evs P cl X j).1 ∧ Fle (evs P cl X i).2 (evs P cl X j).2 := by
  induction h with
  | refl => exact ⟨fun _ _ _ _ h => h, fun _ _ _ _ _ h => h⟩
  | step _ ih => exact ⟨fun _ _ _ _ h => (evs_succ _).1 _ _ _ _ (ih.1 _ _ _ _ h), fun _ _ _ _ _ h => (evs_succ _).2 _ _ _ _ _ (ih.2 _ _ _ _ _ h)⟩
open Classical in
noncomputable def limR (P : Program) (cl : FuncId → Nat) (X : Exts) : Ru := fun c p s => if h : ∃ x k, (evs P cl X k).1 c p s = some x then some h.choose else none
open Classical in
noncomputable def limF (P : Program) (cl : FuncId → Nat) (X : Exts) : Fn' := fun f a p H => if h : ∃ x k, (evs P cl X k).2 f a p H = some x then some h.choose else none
theorem limR_iff {c : Code} {p : Nat} {s : St} {x : Exit × St} : limR P cl X c p s = some x ↔ ∃ k, (evs P cl X k).1 c p s = some x := by
  unfold limR
  constructor
  · intro h
    split at h
    · rename_i hh
      cases h
      exact hh.choose_spec
    · cases h
  · rintro ⟨k, hk⟩
    have hh : ∃ x k, (evs P cl X k).1 c p s = some x := ⟨x, k, hk⟩
    rw [dif_pos hh]
    obtain ⟨j, hj⟩ := hh.choose_spec
    have h1 := (evs_le (P := P) (cl := cl) (X := X) (Nat.le_max_left k j)).1 _ _ _ _ hk
    have h2 := (evs_le (P := P) (cl := cl) (X := X) (Nat.le_max_right k j)).1 _ _ _ _ hj
    rw [h1] at h2
    exact h2.symm
theorem limF_iff {f : FuncId} {a : Array Value} {p : Nat} {H : Heap} {x : Ending × Heap} : limF P cl X f a p H = some x ↔ ∃ k, (evs P cl X k).2 f a p H = some x := by
  unfold limF
  constructor
  · intro h
    split at h
    · rename_i hh
      cases h
      exact hh.choose_spec
    · cases h
  · rintro ⟨k, hk⟩
    have hh : ∃ x k, (evs P cl X k).2 f a p H = some x := ⟨x, k, hk⟩
    rw [dif_pos hh]
    obtain ⟨j, hj⟩ := hh.choose_spec
    have h1 := (evs_le (P := P) (cl := cl) (X := X) (Nat.le_max_left k j)).2 _ _ _ _ _ hk
    have h2 := (evs_le (P := P) (cl := cl) (X := X) (Nat.le_max_right k j)).2 _ _ _ _ _ hj
    rw [h1] at h2
    exact h2.symm
theorem le_limR (k : Nat) : Rle (evs P cl X k).1 (limR P cl X) := fun _ _ _ _ h => limR_iff.2 ⟨k, h⟩
theorem le_limF (k : Nat) : Fle (evs P cl X k).2 (limF P cl X) := fun _ _ _ _ _ h => limF_iff.2 ⟨k, h⟩
theorem bind_cont {α β : Type} {A : Nat → Option α} {F : Nat → α → Option β} {a : Option α} {f : α → Option β} {y : β} (ha : ∀ x, a = some x → ∃ k, ∀ j, k ≤ j → A j = some x) (hf : ∀ x, a = some x → ∀ y, f x = some y → ∃ k, ∀ j, k ≤ j → F j x = some y)
    (h : a.bind f = some y) : ∃ k, ∀ j, k ≤ j → (A j).bind (F j) = some y := by
  obtain ⟨x, h1, h2⟩ := Option.bind_eq_some_iff.1 h
  obtain ⟨k1, g1⟩ := ha x h1
  obtain ⟨k2, g2⟩ := hf x h1 y h2
  exact ⟨max k1 k2, fun j hj => by rw [g1 j (by omega)]; exact g2 j (by omega)⟩
theorem const_cont {α : Type} {a : Option α} {x : α} (h : a = some x) : ∃ k : Nat, ∀ j, k ≤ j → a = some x := ⟨0, fun _ _ => h⟩
theorem limR_cont {c : Code} {p : Nat} {s : St} {x : Exit × St} (h : limR P cl X c p s = some x) : ∃ k, ∀ j, k ≤ j → (evs P cl X j).1 c p s = some x := by
  obtain ⟨k, hk⟩ := limR_iff.1 h
  exact ⟨k, fun j hj => (evs_le hj).1 _ _ _ _ hk⟩
theorem limF_cont {f : FuncId} {a : Array Value} {p : Nat} {H : Heap} {x : Ending × Heap} (h : limF P cl X f a p H = some x) : ∃ k, ∀ j, k ≤ j → (evs P cl X j).2 f a p H = some x := by
  obtain ⟨k, hk⟩ := limF_iff.1 h
  exact ⟨k, fun j hj => (evs_le hj).2 _ _ _ _ _ hk⟩
theorem andThen_cont {A : Nat → Option (Exit × St)} {F : Nat → St → Option (Exit × St)} {a : Option (Exit × St)} {f : St → Option (Exit × St)} {y : Exit × St} (ha : ∀ x, a = some x → ∃ k, ∀ j, k ≤ j → A j = some x) (hf : ∀ s y, f s = some y → ∃ k, ∀ j, k ≤ j → F j s = some y)
    (h : andThen a f = some y) : ∃ k, ∀ j, k ≤ j → andThen (A j) (F j) = some y := by
  refine bind_cont ha (fun x _ y h => ?_) h
  split at h
  · exact hf _ _ h
  · exact const_cont h
theorem evOp_cont {dq : Bool} {prot : Nat} {o : Op} {d : Option Tmp} {s : St} {y : Exit × St} (h : evOp (limF P cl X) P cl dq prot o d s = some y) : ∃ k, ∀ j, k ≤ j → evOp (evs P cl X j).2 P cl dq prot o d s = some y := by
  unfold evOp at h ⊢
  refine bind_cont (fun _ h => const_cont h) (fun r _ y h => ?_) h
  split at h
  · exact const_cont h
  · exact const_cont h
  · exact const_cont h
  · exact bind_cont (fun x h => limF_cont h) (fun _ _ _ h => const_cont h) h
  · exact const_cont h
  · cases h
theorem evOps_cont {dq : Bool} {prot : Nat} {ops : Array Oper} : ∀ {l : List Oper} {s : St} {y : Exit × St}, evOps (limF P cl X) P cl dq prot ops l s = some y → ∃ k, ∀ j, k ≤ j → evOps (evs P cl X j).2 P cl dq prot ops l s = some y
  | [], _, _, h => ⟨0, fun _ _ => h⟩
  | o :: l, s, y, h => by
    simp only [evOps] at h ⊢
    refine bind_cont (fun _ h => const_cont h) (fun b _ y h => ?_) h
    cases b with
    | true => exact andThen_cont (fun _ h => evOp_cont h) (fun _ _ h => evOps_cont h) h
    | false => exact evOps_cont h
theorem evOpF_cont {fl : Bool} {prot : Nat} {o : Oper} {s : St} {y : Exit × St} (h : evOpF fl (limF P cl X) P cl prot o s = some y) : ∃ k, ∀ j, k ≤ j → evOpF fl (evs P cl X j).2 P cl prot o s = some y := by
  unfold evOpF at h ⊢
  exact bind_cont (fun _ h => evOp_cont h) (fun _ _ _ h => const_cont h) h
theorem fltNext_cont {o : Op} {d : Option Nat} {t : Nat → Value} {ev : Operand → Value} {H : Heap} {pend : Pend} {go : Pend → Option (Exit × St)} {G : Nat → Pend → Option (Exit × St)} {y : Exit × St} (hg : ∀ p y, go p = some y → ∃ k, ∀ j, k ≤ j → G j p = some y) (h : fltNext P o d t ev H pend go = some y) : ∃ k, ∀ j, k ≤ j → fltNext P o d t ev H pend (G j) = some y := by
  unfold fltNext at h ⊢
  split at h
  · rename_i T x k
    by_cases hh : ground (t k) = true
    · rw [if_pos hh] at h
      obtain ⟨n, hn⟩ := hg _ _ h
      exact ⟨n, fun j hj => by rw [if_pos hh]; exact hn j hj⟩
    · rw [if_neg hh] at h; cases h
  · by_cases hw : mayW o = true
    · rw [if_pos hw] at h
      by_cases hh : chkF P pend H
      · rw [if_pos hh] at h
        obtain ⟨n, hn⟩ := hg _ _ h
        exact ⟨n, fun j hj => by rw [if_pos hw, if_pos hh]; exact hn j hj⟩
      · rw [if_neg hh] at h; cases h
    · rw [if_neg hw] at h
      obtain ⟨n, hn⟩ := hg _ _ h
      exact ⟨n, fun j hj => by rw [if_neg hw]; exact hn j hj⟩
theorem fltGo_cont {prot : Nat} {ops : Array Oper} : ∀ {l : List Oper} {pend : Pend} {s : St} {y : Exit × St}, fltGo (limF P cl X) P cl prot ops l pend s = some y → ∃ n, ∀ j, n ≤ j → fltGo (evs P cl X j).2 P cl prot ops l pend s = some y
  | [], _, _, _, h => ⟨0, fun _ _ => h⟩
  | o :: l, pend, s, y, h => by
    simp only [fltGo] at h ⊢
    refine bind_cont (fun _ h => const_cont h) (fun b _ y h => ?_) h
    cases b with
    | true =>
      refine bind_cont (fun _ h => evOp_cont h) (fun r _ y h => ?_) h
      obtain ⟨e1, s1⟩ := r
      cases e1 <;> first | exact fltNext_cont (fun _ _ h => fltGo_cont h) h | cases h
    | false => exact fltGo_cont h
theorem evRest_cont {fl : Bool} {prot : Nat} {ops : Array Oper} {k : Nat} : ∀ {l : List Oper} {i : Nat} {s y : St}, evRest fl (limF P cl X) P cl prot ops k l i s = some y → ∃ n, ∀ j, n ≤ j → evRest fl (evs P cl X j).2 P cl prot ops k l i s = some y
  | [], _, _, _, h => ⟨0, fun _ _ => h⟩
  | o :: l, i, s, y, h => by
    simp only [evRest] at h ⊢
    split at h
    · rename_i hb; simp only [if_pos hb]; exact evRest_cont h
    · rename_i hb
      simp only [if_neg hb]
      split at h
      · rename_i hc
        simp only [if_pos hc]
        refine bind_cont (fun _ h => const_cont h) (fun b _ y h => ?_) h
        cases b with
        | true =>
          refine bind_cont (fun _ h => evOpF_cont h) (fun r _ y h => ?_) h
          obtain ⟨e1, s1⟩ := r
          cases e1 <;> first | exact evRest_cont h | cases h
        | false => exact evRest_cont h
      · cases h
theorem evDrop_cont {fl : Bool} {prot : Nat} {ops : Array Oper} : ∀ {l : List Oper} {i : Nat} {s : St} {y : Exit × St}, evDrop fl (limF P cl X) P cl prot ops l i s = some y → ∃ n, ∀ j, n ≤ j → evDrop fl (evs P cl X j).2 P cl prot ops l i s = some y
  | [], _, _, _, h => ⟨0, fun _ _ => h⟩
  | o :: l, i, s, y, h => by
    simp only [evDrop] at h ⊢
    refine bind_cont (fun _ h => const_cont h) (fun b _ y h => ?_) h
    cases b with
    | true =>
      refine bind_cont (fun _ h => evOpF_cont h) (fun r _ y h => ?_) h
      obtain ⟨e1, s1⟩ := r
      cases e1 <;> first | exact evDrop_cont h | (cases h; done) | skip
      obtain ⟨s2, h2, h⟩ := Option.map_eq_some_iff.1 h
      obtain ⟨n, hn⟩ := evRest_cont h2
      exact ⟨n, fun j hj => by simp only [hn j hj, Option.map_some, h]⟩
    | false => exact evDrop_cont h
theorem limR_eq {c : Code} {p : Nat} {s : St} {y : Exit × St} {A : Nat → Option (Exit × St)} {a : Option (Exit × St)} (hA : ∀ k, (evs P cl X (k + 1)).1 c p s = A k) (h1 : ∀ y, a = some y → ∃ k, ∀ j, k ≤ j → A j = some y) (h2 : ∀ k y, A k = some y → a = some y) :
    limR P cl X c p s = a := by
  apply Option.ext
  intro y
  constructor
  · intro h
    obtain ⟨k, hk⟩ := limR_cont h
    exact h2 k y (by rw [← hA]; exact hk (k + 1) (by omega))
  · intro h
    obtain ⟨k, hk⟩ := h1 y h
    exact limR_iff.2 ⟨k + 1, by rw [hA]; exact hk k (Nat.le_refl _)⟩
theorem E_skip {p : Nat} {s : St} : limR P cl X .skip p s = some (.normal, s) := limR_iff.2 ⟨1, rfl⟩
theorem E_exit {id p : Nat} {s : St} : limR P cl X (.exit id) p s = some (.exit id, s) := limR_iff.2 ⟨1, rfl⟩
theorem E_ret {p : Nat} {s : St} : limR P cl X .ret p s = some (.ret, s) := limR_iff.2 ⟨1, rfl⟩
theorem E_label {l p : Nat} {s : St} : limR P cl X (.label l) p s = some (.normal, s) := limR_iff.2 ⟨1, rfl⟩
theorem E_goto {l p : Nat} {s : St} : limR P cl X (.goto l) p s = some (.goto l, s) := limR_iff.2 ⟨1, rfl⟩
theorem E_seq {a b : Code} {p : Nat} {s : St} : limR P cl X (.seq a b) p s = andThen (limR P cl X a p s) (limR P cl X b p) :=
  limR_eq (y := (.normal, s)) (A := fun k => andThen ((evs P cl X k).1 a p s) ((evs P cl X k).1 b p)) (fun _ => rfl) (fun _ h => andThen_cont (fun _ h => limR_cont h) (fun _ _ h => limR_cont h) h)
    (fun k y h => andThen_mono (fun _ h => le_limR k _ _ _ _ h) (fun _ _ h => le_limR k _ _ _ _ h) h)
theorem E_region {id p : Nat} {ops : Array Oper} {s : St} : limR P cl X (.region id ops false) p s = evOps (limF P cl X) P cl false p ops ops.toList s :=
  limR_eq (y := (.normal, s)) (A := fun k => evOps (evs P cl X k).2 P cl false p ops ops.toList s) (fun _ => rfl) (fun _ h => evOps_cont h) (fun k y h => evOps_mono (le_limF k) h)
theorem E_draw {id p : Nat} {ops : Array Oper} {s : St} : limR P cl X (.region id ops true) p s = drawn (limF P cl X) P cl p id ops s (evOps (limF P cl X) P cl true p ops ops.toList s) :=
  limR_eq (y := (.normal, s)) (A := fun k => drawn (evs P cl X k).2 P cl p id ops s (evOps (evs P cl X k).2 P cl true p ops ops.toList s)) (fun _ => rfl) (fun _ h => bind_cont (fun _ h => evOps_cont h) (fun r _ y h => by
      obtain ⟨e1, s1⟩ := r
      cases e1
      case normal =>
        simp only at h ⊢
        by_cases hh : isF cl id (hdT ops) = true
        · rw [if_pos hh] at h
          obtain ⟨n, hn⟩ := fltGo_cont h
          exact ⟨n, fun j hj => by rw [if_pos hh]; exact hn j hj⟩
        · rw [if_neg hh] at h
          exact ⟨0, fun j _ => by rw [if_neg hh]; exact h⟩
      all_goals first | exact const_cont h | exact evDrop_cont h) h)
    (fun k y h => drawn_mono (le_limF k) h)
theorem E_cond {c : Operand} {a b : Code} {p : Nat} {s : St} : limR P cl X (.cond c a b) p s = (match s.eval c with
    | .bool t => if t = true then limR P cl X a p s else limR P cl X b p s
    | _ => none) :=
  limR_eq (y := (.normal, s)) (A := fun k => match s.eval c with
    | .bool t => if t = true then (evs P cl X k).1 a p s else (evs P cl X k).1 b p s
    | _ => none) (fun _ => rfl) (fun _ h => by
      split at h
      · split at h
        · rename_i ht; simp only [ht, if_true]; exact limR_cont h
        · rename_i ht; simp only [ht, if_false]; exact limR_cont h
      · cases h) (fun k y h => by
      split at h
      · split at h
        · rename_i ht; simp only [ht, if_true]; exact le_limR k _ _ _ _ h
        · rename_i ht; simp only [ht, if_false]; exact le_limR k _ _ _ _ h
      · cases h)
def blockOut (id : Nat) (x : Option (Exit × St)) : Option (Exit × St) := x.bind fun r => match r.1 with
  | .exit i => if i = id then some (.normal, r.2) else some (.exit i, r.2)
  | x => some (x, r.2)
theorem E_block {id : Nat} {c : Code} {p : Nat} {s : St} : limR P cl X (.block id c) p s = blockOut id (limR P cl X c p s) :=
  limR_eq (y := (.normal, s)) (A := fun k => blockOut id ((evs P cl X k).1 c p s)) (fun _ => rfl) (fun _ h => bind_cont (fun _ h => limR_cont h) (fun _ _ _ h => const_cont h) h)
    (fun k y h => bind_mono (fun _ h => le_limR k _ _ _ _ h) (fun _ _ _ h => h) h)
theorem E_loop {c : Code} {p : Nat} {s : St} : limR P cl X (.loop c) p s = andThen (limR P cl X c p s) (limR P cl X (.loop c) p) :=
  limR_eq (y := (.normal, s)) (A := fun k => andThen ((evs P cl X k).1 c p s) ((evs P cl X k).1 (.loop c) p)) (fun _ => rfl) (fun _ h => andThen_cont (fun _ h => limR_cont h) (fun _ _ h => limR_cont h) h)
    (fun k y h => andThen_mono (fun _ h => le_limR k _ _ _ _ h) (fun _ _ h => le_limR k _ _ _ _ h) h)
theorem E_scope (m : Nat) {c : Code} {p : Nat} {s : St} {y : Exit × St} (h : scopeGo (limR P cl X) p c m c s = some y) : limR P cl X (.scope c) p s = some y := by
  have key : ∀ (m : Nat) (cur : Code) (s : St) (y : Exit × St), scopeGo (limR P cl X) p c m cur s = some y → ∃ k, ∀ j, k ≤ j → scopeGo (evs P cl X j).1 p c m cur s = some y := by
    intro m
    induction m with
    | zero => intro cur s y h; cases h
    | succ m ih =>
      intro cur s y h
      simp only [scopeGo] at h ⊢
      refine bind_cont (fun _ h => limR_cont h) (fun x _ y h => ?_) h
      obtain ⟨e, s1⟩ := x
      cases e with
      | goto l =>
        simp only at h ⊢
        cases hl : findLabel c l with
        | some rest => rw [hl] at h; exact ih _ _ _ h
        | none => rw [hl] at h; exact const_cont h
      | _ => exact const_cont h
  obtain ⟨k, hk⟩ := key m c s y h
  exact limR_iff.2 ⟨max k m + 1, scopeGo_mono (r := (evs P cl X (max k m)).1) (fun _ _ _ _ h => h) (Nat.le_max_right k m) (hk _ (Nat.le_max_left k m))⟩
theorem finish_cont {q : Bool} {rs : Array ResultVar} {H : Heap} {c : Code} {p : Nat} {s : St} {y : Ending × Heap} (h : finish P q rs H (limR P cl X c p s) = some y) : ∃ k, ∀ j, k ≤ j → finish P q rs H ((evs P cl X j).1 c p s) = some y := by
  unfold finish at h ⊢
  exact bind_cont (fun _ h => limR_cont h) (fun _ _ _ h => const_cont h) h
theorem finish_mono (k : Nat) {q : Bool} {rs : Array ResultVar} {H : Heap} {c : Code} {p : Nat} {s : St} {y : Ending × Heap} (h : finish P q rs H ((evs P cl X k).1 c p s) = some y) : finish P q rs H (limR P cl X c p s) = some y := by
  unfold finish at h ⊢
  exact bind_mono (fun _ h => le_limR k _ _ _ _ h) (fun _ _ _ h => h) h
theorem evS_cont {prot : Nat} : ∀ {c : Code} {u : Md} {s : St} {y : Exit × Md × St}, evS P cl (limR P cl X) prot c u s = some y → ∃ k, ∀ j, k ≤ j → evS P cl (evs P cl X j).1 prot c u s = some y := by
  have base : ∀ (c : Code) {u : Md} {s : St} {y : Exit × Md × St}, ((limR P cl X c prot s).map fun r => (r.1, u, r.2)) = some y → ∃ k, ∀ j, k ≤ j → (((evs P cl X j).1 c prot s).map fun r => (r.1, u, r.2)) = some y := by
    intro c u s y h
    obtain ⟨x, h1, h2⟩ := Option.map_eq_some_iff.1 h
    obtain ⟨k, hk⟩ := limR_cont h1
    exact ⟨k, fun j hj => Option.map_eq_some_iff.2 ⟨x, hk j hj, h2⟩⟩
  intro c
  induction c with
  | seq a b iha ihb =>
    intro u s y h
    rw [evS] at h
    simp only [evS]
    refine bind_cont (fun _ h => iha h) (fun x _ y h => ?_) h
    split at h
    · rename_i he; (try simp only [he]); exact ihb h
    · exact const_cont h
  | cond c a b iha ihb =>
    intro u s y h
    rw [evS] at h
    simp only [evS]
    split at h
    · rename_i ht
      (try simp only [ht])
      split at h
      · rename_i hb; simp only [if_pos hb]; exact iha h
      · rename_i hb; simp only [if_neg hb]; exact ihb h
    · cases h
  | region i ops draw =>
    intro u s y h
    cases draw with
    | true => exact base _ h
    | false =>
      rw [evS] at h
      simp only [evS]
      split at h
      · rename_i hb; simp only [if_pos hb]; exact const_cont h
      · rename_i hb; simp only [if_neg hb]; exact base _ h
  | _ => intro u s y h; exact base _ h
theorem dfnA_cont {f : FuncId} {a : Array Value} {u : Md} {p : Nat} {H : Heap} {y : Ending × Md × Heap} (h : dfnA P cl X (limR P cl X) f a u p H = some y) : ∃ k, ∀ j, k ≤ j → dfnA P cl X (evs P cl X j).1 f a u p H = some y := by
  unfold dfnA at h ⊢
  split at h
  · cases h
  · rename_i hX
    split at h
    · cases h
    · rename_i hc
      simp only [if_neg hc]
      refine bind_cont (fun _ h => const_cont h) (fun fn _ y h => ?_) h
      refine bind_cont (fun _ h => const_cont h) (fun c _ y h => ?_) h
      exact bind_cont (fun _ h => evS_cont h) (fun _ _ _ h => const_cont h) h
theorem leaveA_cont {rs : Array ResultVar} {p : Nat} {t : Nat → Value} : ∀ {ds : List Deferred} {u : Md} {H : Heap} {y : Ending × Heap}, leaveA (dfnA P cl X (limR P cl X)) P rs p t ds u H = some y → ∃ k, ∀ j, k ≤ j → leaveA (dfnA P cl X (evs P cl X j).1) P rs p t ds u H = some y
  | [], none, _, _, h => const_cont h
  | [], some _, _, _, h => const_cont h
  | x :: ds, u, H, y, h => by
    rw [leaveA] at h
    simp only [leaveA]
    split at h
    · rename_i ht
      (try simp only [ht])
      refine bind_cont (fun _ h => dfnA_cont h) (fun r _ y h => ?_) h
      split at h
      · rename_i he; (try simp only [he]); exact leaveA_cont h
      · rename_i he; (try simp only [he]); exact leaveA_cont h
      · cases h
    · cases h
theorem finishD_cont {rs : Array ResultVar} {p : Nat} {c : Code} {s : St} {y : Ending × Heap} (h : finishD (dfnA P cl X (limR P cl X)) P rs p (limR P cl X c p s) = some y) : ∃ k, ∀ j, k ≤ j → finishD (dfnA P cl X (evs P cl X j).1) P rs p ((evs P cl X j).1 c p s) = some y := by
  unfold finishD at h ⊢
  refine bind_cont (fun _ h => limR_cont h) (fun r _ y h => ?_) h
  split at h
  · rename_i he; (try simp only [he]); exact leaveA_cont h
  · rename_i he; (try simp only [he]); exact leaveA_cont h
  · rename_i he; (try simp only [he]); exact leaveA_cont h
  · cases h
theorem F_def {f : FuncId} {fn : Func} {c : Code} {a : Array Value} {p : Nat} {H : Heap} (hX : X f = none) (hc : cl f = 5) (hpu : pu cl f = false) (hf : P.funcs[f]? = some fn) (hb : fn.body = some c) :
    limF P cl X f a p H = finishD (dfnA P cl X (limR P cl X)) P fn.results p (limR P cl X c p { t := fun i => a.getD i undef, ds := [], H }) := by
  apply Option.ext
  intro y
  have h0 : ¬ cl f = 0 := by omega
  have hbody : ∀ r, bodyFn P cl X r f a p H = finishD (dfnA P cl X r) P fn.results p (r c p { t := fun i => a.getD i undef, ds := [], H }) := by
    intro r
    unfold bodyFn
    rw [hX]
    simp only [if_neg h0, if_pos hc, hf, hb, Option.bind_some, hpu, Bool.false_eq_true, if_false]
  constructor
  · intro h
    obtain ⟨k, hk⟩ := limF_cont h
    have := hk (k + 1) (by omega)
    change bodyFn P cl X (evs P cl X k).1 f a p H = _ at this
    rw [hbody] at this
    exact finishD_mono' (dfnA_mono (le_limR k)) (fun _ h => le_limR k _ _ _ _ h) this
  · intro h
    obtain ⟨k, hk⟩ := finishD_cont h
    exact limF_iff.2 ⟨k + 1, (hbody _).trans (hk k (Nat.le_refl _))⟩
theorem F_body {f : FuncId} {fn : Func} {c : Code} {a : Array Value} {p : Nat} {H : Heap} (hX : X f = none) (hc : cl f ≠ 0) (hc5 : cl f ≠ 5) (hpu : pu cl f = false) (hf : P.funcs[f]? = some fn) (hb : fn.body = some c) :
    limF P cl X f a p H = finish P (cl f == 1) fn.results H (limR P cl X c (if cl f = 1 then H.length else p) { t := fun i => a.getD i undef, ds := [], H }) := by
  apply Option.ext
  intro y
  have hbody : ∀ r, bodyFn P cl X r f a p H = finish P (cl f == 1) fn.results H (r c (if cl f = 1 then H.length else p) { t := fun i => a.getD i undef, ds := [], H }) := by
    intro r
    unfold bodyFn
    rw [hX]
    simp only [if_neg hc, if_neg hc5, hf, hb, Option.bind_some, hpu, Bool.false_eq_true, if_false]
  constructor
  · intro h
    obtain ⟨k, hk⟩ := limF_cont h
    have := hk (k + 1) (by omega)
    change bodyFn P cl X (evs P cl X k).1 f a p H = _ at this
    rw [hbody] at this
    exact finish_mono k this
  · intro h
    obtain ⟨k, hk⟩ := finish_cont h
    exact limF_iff.2 ⟨k + 1, (hbody _).trans (hk k (Nat.le_refl _))⟩
theorem F_pure {f : FuncId} {fn : Func} {c : Code} {a : Array Value} {p : Nat} {H : Heap} (hX : X f = none) (hc : cl f = 1) (hpu : pu cl f = true) (hf : P.funcs[f]? = some fn) (hb : fn.body = some c) (hg' : a.toList.all ground = true) :
    limF P cl X f a p H = purely H (finish P false fn.results [] (limR P cl X c 0 { t := fun i => a.getD i undef, ds := [], H := [] })) := by
  have hg : a.all ground = true := by rw [← Array.all_toList]; exact hg'
  apply Option.ext
  intro y
  have hbody : ∀ r, bodyFn P cl X r f a p H = purely H (finish P false fn.results [] (r c 0 { t := fun i => a.getD i undef, ds := [], H := [] })) := by
    intro r
    unfold bodyFn
    rw [hX]
    simp only [hc, Nat.one_ne_zero, if_false, hf, hb, Option.bind_some, hpu, if_true, hg, and_self]
  constructor
  · intro h
    obtain ⟨k, hk⟩ := limF_cont h
    have := hk (k + 1) (by omega)
    change bodyFn P cl X (evs P cl X k).1 f a p H = _ at this
    rw [hbody] at this
    exact bind_mono (fun _ h => finish_mono k h) (fun _ _ _ h => h) this
  · intro h
    have hfin : ∃ k, ∀ j, k ≤ j → purely H (finish P false fn.results [] ((evs P cl X j).1 c 0 { t := fun i => a.getD i undef, ds := [], H := [] })) = some y := by
      unfold purely at h ⊢
      exact bind_cont (fun _ h => finish_cont h) (fun _ _ _ h => const_cont h) h
    obtain ⟨k, hk⟩ := hfin
    exact limF_iff.2 ⟨k + 1, (hbody _).trans (hk k (Nat.le_refl _))⟩
theorem F_ext {f : FuncId} {g : Array Value → Nat → Heap → Option (Ending × Heap)} {a : Array Value} {p : Nat} {H : Heap} (hX : X f = some g) : limF P cl X f a p H = g a (if cl f = 1 then H.length else p) H := by
  apply Option.ext
  intro y
  have hbody : ∀ r, bodyFn P cl X r f a p H = g a (if cl f = 1 then H.length else p) H := by
    intro r
    unfold bodyFn
    rw [hX]
  constructor
  · intro h
    obtain ⟨k, hk⟩ := limF_cont h
    rw [← hbody (evs P cl X k).1]
    exact hk (k + 1) (by omega)
  · intro h
    exact limF_iff.2 ⟨1, (hbody _).trans h⟩
theorem F_sound {N0 : Nat} {W0 : World} (G : Good P N0 W0 cl X) {f : FuncId} {args : Array Value} {prot : Nat} {w : World} {M : Mp} {H H' : Heap} {e : Ending} (h : limF P cl X f args prot H = some (e, H')) (hp : prot ≤ H.length) {args' : Array Value} (hH : HR N0 W0 M H w)
    (hv : VRL M args.toList args'.toList) : Calls P f args' w fun e' w' => ∃ M', Mle M M' ∧ HR N0 W0 M' H' w' ∧ ER M' e e' ∧ Kp (if cl f = 1 then H.length else prot) M M' w w' := by
  obtain ⟨k, hk⟩ := limF_iff.1 h
  exact call_sound G hk hp hH hv
end Go.AM

namespace Go.AM
open Go
variable {P : Program} {cl : FuncId → Nat} {fn : Fn'} {dq : Bool} {p d : Nat} {t : Nat → Value} {ds : List Deferred} {H : Heap} {ops : Array Oper}
abbrev str (l : List UInt8) : Value := .string ⟨l.toArray⟩
def stepV (t : Nat → Value) (ds : List Deferred) (H : Heap) (d : Nat) (x : Option Value) : Option (Exit × St) := x.bind fun v => some (.normal, ⟨upd t d v, ds, H⟩)
def stepVH (t : Nat → Value) (ds : List Deferred) (d : Nat) (x : Option (Value × Heap)) : Option (Exit × St) := x.bind fun v => some (.normal, ⟨upd t d v.1, ds, v.2⟩)
def stepU (t : Nat → Value) (ds : List Deferred) (x : Option Heap) : Option (Exit × St) := x.bind fun H => some (.normal, ⟨t, ds, H⟩)
def stepF (t : Nat → Value) (ds : List Deferred) (d : Option Tmp) (x : Option (Ending × Heap)) : Option (Exit × St) := x.bind fun q => match q.1 with
  | .returned v => some (.normal, match d with
    | some d => ⟨upd t d v, ds, q.2⟩
    | none => ⟨t, ds, q.2⟩)
  | .panicked ch => some (.panic ch, ⟨t, ds, q.2⟩)
  | .outgrown => none
theorem stepV_some (v : Value) : stepV t ds H d (some v) = some (.normal, ⟨upd t d v, ds, H⟩) := (rfl)
theorem stepVH_some (v : Value) : stepVH t ds d (some (v, H)) = some (.normal, ⟨upd t d v, ds, H⟩) := (rfl)
theorem stepU_some : stepU t ds (some H) = some (.normal, ⟨t, ds, H⟩) := (rfl)
theorem stepF_some (v : Value) : stepF t ds (some d) (some (.returned v, H)) = some (.normal, ⟨upd t d v, ds, H⟩) := (rfl)
theorem stepF_none (v : Value) : stepF t ds none (some (.returned v, H)) = some (.normal, ⟨t, ds, H⟩) := (rfl)
theorem andThen_normal (s : St) (f : St → Option (Exit × St)) : andThen (some (.normal, s)) f = f s := (rfl)
theorem andThen_ret (s : St) (f : St → Option (Exit × St)) : andThen (some (.ret, s)) f = some (.ret, s) := (rfl)
theorem andThen_exit (i : Nat) (s : St) (f : St → Option (Exit × St)) : andThen (some (.exit i, s)) f = some (.exit i, s) := (rfl)
theorem andThen_goto (i : Nat) (s : St) (f : St → Option (Exit × St)) : andThen (some (.goto i, s)) f = some (.goto i, s) := (rfl)
theorem blockOut_exit (s : St) (i j : Nat) : blockOut i (some (.exit j, s)) = if j = i then some (.normal, s) else some (.exit j, s) := (rfl)
theorem blockOut_normal (s : St) (i : Nat) : blockOut i (some (.normal, s)) = some (.normal, s) := (rfl)
theorem blockOut_ret (s : St) (i : Nat) : blockOut i (some (.ret, s)) = some (.ret, s) := (rfl)
theorem blockOut_goto (s : St) (i l : Nat) : blockOut i (some (.goto l, s)) = some (.goto l, s) := (rfl)
theorem drawn_normal {fn : Fn'} {p id : Nat} {s0 : St} {dst : Option Tmp} {op : Op} {ty : TypeId} {pos : String} {aft : Array Edge} {g : Option (Nat × Bool)} {l : List Oper} (s : St) (h : isF cl id dst = false) :
    drawn fn P cl p id (List.toArray ({ dst, op, type := ty, pos, after := aft, guard := g } :: l)) s0 (some (.normal, s)) = some (.normal, s) := by
  show (if isF cl id dst = true then _ else _) = _
  rw [h]
  rfl
theorem drawn_flt {fn : Fn'} {p id : Nat} {s0 : St} {dst : Option Tmp} {op : Op} {ty : TypeId} {pos : String} {aft : Array Edge} {g : Option (Nat × Bool)} {l : List Oper} (s : St) (h : isF cl id dst = true) :
    drawn fn P cl p id (List.toArray ({ dst, op, type := ty, pos, after := aft, guard := g } :: l)) s0 (some (.normal, s)) = fltGo fn P cl p (List.toArray ({ dst, op, type := ty, pos, after := aft, guard := g } :: l)) ({ dst, op, type := ty, pos, after := aft, guard := g } :: l) [] s0 := by
  show (if isF cl id dst = true then _ else _) = _
  rw [if_pos h]
theorem drawn_panic {fn : Fn'} {p id : Nat} {s0 : St} {dst : Option Tmp} {op : Op} {ty : TypeId} {pos : String} {aft : Array Edge} {g : Option (Nat × Bool)} {l : List Oper} {fl : Bool} (ch : List PanicEntry) (s : St) (h : isF cl id dst = fl) :
    drawn fn P cl p id (List.toArray ({ dst, op, type := ty, pos, after := aft, guard := g } :: l)) s0 (some (.panic ch, s)) = evDrop fl fn P cl p (List.toArray ({ dst, op, type := ty, pos, after := aft, guard := g } :: l)) ({ dst, op, type := ty, pos, after := aft, guard := g } :: l) 0 s0 := by
  subst h
  rfl
theorem isF_none {id : Nat} : isF cl id none = false := (rfl)
theorem drawn_congr {fn : Fn'} {p id : Nat} {ops : Array Oper} {s0 : St} {x y : Option (Exit × St)} (h : x = y) : drawn fn P cl p id ops s0 x = drawn fn P cl p id ops s0 y := by rw [h]
noncomputable def fltR (fn : Fn') (P : Program) (cl : FuncId → Nat) (p : Nat) (ops : Array Oper) (op : Op) (d : Option Nat) (s : St) (pend : Pend) (l : List Oper) (x : Option (Exit × St)) : Option (Exit × St) := x.bind fun r => match r.1 with
  | .normal => fltNext P op d r.2.t s.eval r.2.H pend fun pend' => fltGo fn P cl p ops l pend' r.2
  | _ => none
theorem fltR_congr {fn : Fn'} {p : Nat} {ops : Array Oper} {op : Op} {d : Option Nat} {s : St} {pend : Pend} {l : List Oper} {x y : Option (Exit × St)} (h : x = y) : fltR fn P cl p ops op d s pend l x = fltR fn P cl p ops op d s pend l y := by rw [h]
theorem fltGo_plain {fn : Fn'} {p : Nat} {ops : Array Oper} (dst : Option Tmp) (op : Op) (ty : TypeId) (pos : String) (aft : Array Edge) (l : List Oper) (pend : Pend) (s : St) :
    fltGo fn P cl p ops ({ dst, op, type := ty, pos, after := aft, guard := none } :: l) pend s = fltR fn P cl p ops op dst s pend l (evOp fn P cl true p op dst s) := (rfl)
theorem fltGo_nil {fn : Fn'} {p : Nat} {ops : Array Oper} (pend : Pend) (s : St) : fltGo fn P cl p ops [] pend s = some (.normal, s) := (rfl)
def fltB (b : Bool) (x : Option (Exit × St)) : Option (Exit × St) := if b = true then x else none
theorem fltB_congr {b b' : Bool} {x : Option (Exit × St)} (h : b = b') : fltB b x = fltB b' x := by rw [h]
theorem fltB_true (x : Option (Exit × St)) : fltB true x = x := (rfl)
theorem fltR_load {fn : Fn'} {p : Nat} {ops : Array Oper} (T : TypeId) (x : Operand) (d : Nat) (s s' : St) (pend : Pend) (l : List Oper) :
    fltR fn P cl p ops (.load T x) (some d) s pend l (some (.normal, s')) = fltB (ground (s'.t d)) (fltGo fn P cl p ops l ((T, s.eval x, s'.t d) :: pend) s') := (rfl)
def stillOp (o : Op) : Bool := !isLd o && !mayW o
theorem fltR_still {fn : Fn'} {p : Nat} {ops : Array Oper} {op : Op} (d : Option Nat) (s s' : St) (pend : Pend) (l : List Oper) (h : stillOp op = true) :
    fltR fn P cl p ops op d s pend l (some (.normal, s')) = fltGo fn P cl p ops l pend s' := by
  unfold stillOp at h
  simp only [Bool.and_eq_true, Bool.not_eq_true'] at h
  unfold fltR
  simp only [Option.bind_some]
  unfold fltNext
  split
  · simp [isLd] at h
  · rw [h.2]; rfl
noncomputable def fltC (q : Prop) (x : Option (Exit × St)) : Option (Exit × St) := by classical exact if q then x else none
theorem fltC_congr {q q' : Prop} {x : Option (Exit × St)} (h : q = q') : fltC q x = fltC q' x := by rw [h]
theorem fltC_true (x : Option (Exit × St)) : fltC True x = x := by unfold fltC; exact if_pos trivial
theorem fltR_loud {fn : Fn'} {p : Nat} {ops : Array Oper} {op : Op} (d : Option Nat) (s s' : St) (pend : Pend) (l : List Oper) (h : mayW op = true) :
    fltR fn P cl p ops op d s pend l (some (.normal, s')) = fltC (chkF P pend s'.H) (fltGo fn P cl p ops l pend s') := by
  unfold fltR
  simp only [Option.bind_some]
  unfold fltNext fltC
  split
  · cases h
  · rw [if_pos h]
theorem chkF_nil {H : Heap} : chkF P [] H = True := by simp [chkF]
theorem chkF_cons {H : Heap} {T : TypeId} {a v : Value} {l : Pend} : chkF P ((T, a, v) :: l) H = (ldA P H T a = some v ∧ chkF P l H) := by simp [chkF]
theorem still_move (x : Operand) : stillOp (.move x) = true := (rfl)
theorem still_assign (x : Operand) : stillOp (.assign x) = true := (rfl)
theorem still_pick (x y z : Operand) : stillOp (.pick x y z) = true := (rfl)
theorem still_build (T : TypeId) (x : Array (Nat × Operand)) : stillOp (.build T x) = true := (rfl)
theorem still_nilCheck (x : Operand) : stillOp (.nilCheck x) = true := (rfl)
theorem still_bin (b : BinOp) (T U : TypeId) (x y : Operand) : stillOp (.binOp b T x y U) = true := (rfl)
theorem still_slice (T : TypeId) (x : Operand) (a b c : Option Operand) : stillOp (.slice T x a b c) = true := (rfl)
theorem still_fieldAddr (T : TypeId) (x : Operand) (k : Nat) : stillOp (.fieldAddr T x k) = true := (rfl)
theorem still_field (T : TypeId) (x : Operand) (k : Nat) : stillOp (.field T x k) = true := (rfl)
theorem still_indexAddr (T : TypeId) (x y : Operand) : stillOp (.indexAddr T x y) = true := (rfl)
theorem still_index (T : TypeId) (x y : Operand) : stillOp (.index T x y) = true := (rfl)
theorem still_extract (x : Operand) (k : Nat) : stillOp (.extract x k) = true := (rfl)
theorem still_alloc (T : TypeId) : stillOp (.alloc T) = true := (rfl)
theorem mayW_store (T : TypeId) (x y : Operand) : mayW (.store T x y) = true := (rfl)
theorem mayW_mapUpdate (T : TypeId) (x y z : Operand) : mayW (.mapUpdate T x y z) = true := (rfl)
theorem mayW_call (c : Call) : mayW (.call c) = true := (rfl)
theorem mayW_convert (T U : TypeId) (x : Operand) : mayW (.convert T U x) = true := (rfl)
attribute [go_sem] isF_none drawn_flt fltGo_plain fltGo_nil fltB_true fltR_load fltR_still fltR_loud fltC_true chkF_nil chkF_cons still_move still_assign still_pick still_build still_nilCheck still_bin still_slice still_fieldAddr still_field still_indexAddr still_index still_extract still_alloc mayW_store mayW_mapUpdate mayW_call mayW_convert
theorem evOps_nil (s : St) : evOps fn P cl dq p ops [] s = some (.normal, s) := (rfl)
theorem evOps_plain (dst : Option Tmp) (op : Op) (ty : TypeId) (pos : String) (aft : Array Edge) (l : List Oper) (s : St) :
    evOps fn P cl dq p ops ({ dst, op, type := ty, pos, after := aft, guard := none } :: l) s = andThen (evOp fn P cl dq p op dst s) (evOps fn P cl dq p ops l) := (rfl)
def guardV (o : Option Oper) (t : Nat → Value) (want : Bool) : Option Bool := match o.bind (·.dst) with
    | some d => match t d with
      | .bool b => some (b == want)
      | .tuple _ => some false
      | _ => none
    | none => some false
def pickB (q : Bool) (f g : St → Option (Exit × St)) (s1 s2 : St) : Option (Exit × St) := if q = true then f s1 else g s2
theorem pickB_true (f g : St → Option (Exit × St)) (s1 s2 : St) : pickB true f g s1 s2 = f s1 := (rfl)
theorem pickB_false (f g : St → Option (Exit × St)) (s1 s2 : St) : pickB false f g s1 s2 = g s2 := (rfl)
theorem pickB_cases {q : Bool} {f g : St → Option (Exit × St)} {s1 s2 : St} {z : Option (Exit × St)} (h : pickB q f g s1 s2 = z) : (q = true ∧ z = f s1) ∨ (q = false ∧ z = g s2) := by
  subst h
  cases q
  · exact .inr ⟨rfl, rfl⟩
  · exact .inl ⟨rfl, rfl⟩
def ifWant (b : Option Bool) (f g : St → Option (Exit × St)) (s1 s2 : St) : Option (Exit × St) := b.bind fun b => pickB b f g s1 s2
theorem ifWant_some (b : Bool) (f g : St → Option (Exit × St)) (s1 s2 : St) : ifWant (some b) f g s1 s2 = pickB b f g s1 s2 := (rfl)
def condR (v : Value) (f g : St → Option (Exit × St)) (s : St) : Option (Exit × St) := match v with
  | .bool b => pickB b f g s s
  | _ => none
theorem condR_bool (b : Bool) (f g : St → Option (Exit × St)) (s : St) : condR (.bool b) f g s = pickB b f g s s := (rfl)
theorem E_cond' {X : Exts} {c : Operand} {a b : Code} {p : Nat} {s : St} : limR P cl X (.cond c a b) p s = condR (s.eval c) (limR P cl X a p) (limR P cl X b p) s := E_cond
def opThen (fn : Fn') (P : Program) (cl : FuncId → Nat) (dq : Bool) (p : Nat) (ops : Array Oper) (op : Op) (dst : Option Tmp) (l : List Oper) (s : St) : Option (Exit × St) := andThen (evOp fn P cl dq p op dst s) (evOps fn P cl dq p ops l)
theorem opThen_eq (op : Op) (dst : Option Tmp) (l : List Oper) (s : St) : opThen fn P cl dq p ops op dst l s = andThen (evOp fn P cl dq p op dst s) (evOps fn P cl dq p ops l) := (rfl)
def guardB (v : Value) (want : Bool) : Option Bool := match v with
  | .bool b => some (b == want)
  | .tuple _ => some false
  | _ => none
theorem guardB_bool (b want : Bool) : guardB (.bool b) want = some (b == want) := (rfl)
theorem guardB_undef (want : Bool) : guardB undef want = some false := (rfl)
theorem guardV_dst (dst : Tmp) (op : Op) (ty : TypeId) (pos : String) (aft : Array Edge) (g : Option (Nat × Bool)) (want : Bool) :
    guardV (some { dst := some dst, op, type := ty, pos, after := aft, guard := g }) t want = guardB (t dst) want := (rfl)
theorem evOps_guard (dst : Tmp) (op : Op) (ty : TypeId) (pos : String) (aft : Array Edge) (j : Nat) (want : Bool) (l : List Oper) :
    evOps fn P cl dq p ops ({ dst := some dst, op, type := ty, pos, after := aft, guard := some (j, want) } :: l) ⟨t, ds, H⟩ =
      ifWant (guardV ops[j]? t want) (opThen fn P cl dq p ops op (some dst) l) (evOps fn P cl dq p ops l) ⟨t, ds, H⟩ ⟨upd t dst undef, ds, H⟩ := (rfl)
def selU (b : Bool) (v : Value) (t : Nat → Value) (j : Nat) : Value := if b = true then v else t j
theorem selU_congr {b b' : Bool} (h : b = b') (v : Value) (t : Nat → Value) (j : Nat) : selU b v t j = selU b' v t j := by rw [h]
theorem selU_true (v : Value) (t : Nat → Value) (j : Nat) : selU true v t j = v := (rfl)
theorem selU_false (v : Value) (t : Nat → Value) (j : Nat) : selU false v t j = t j := (rfl)
theorem upd_at (v : Value) (i j : Nat) : upd t i v j = selU (j == i) v t j := by
  unfold upd selU
  by_cases h : j = i <;> simp [h]
theorem getD_0 (x : Value) (l : List Value) (d : Value) : (List.toArray (x :: l)).getD 0 d = x := (rfl)
theorem getD_s (x : Value) (l : List Value) (i : Nat) (d : Value) : (List.toArray (x :: l)).getD (i + 1) d = (List.toArray l).getD i d := by
  simp [Array.getD_eq_getD_getElem?]
theorem getD_nil (i : Nat) (d : Value) : (List.toArray ([] : List Value)).getD i d = d := (rfl)
theorem eval_tmp (i : Nat) : St.eval ⟨t, ds, H⟩ (.tmp i) = t i := (rfl)
theorem eval_const (v : Value) : St.eval ⟨t, ds, H⟩ (.const v) = v := (rfl)
theorem eval_global (g : Nat) : St.eval ⟨t, ds, H⟩ (.global g) = .chan (some 0) := (rfl)
theorem eval_func (f : FuncId) : St.eval ⟨t, ds, H⟩ (.func f) = .func (.func f) #[] #[] := (rfl)
theorem isC_tmp (i : Nat) : isC (.tmp i) = false := (rfl)
theorem isC_const (v : Value) : isC (.const v) = true := (rfl)
theorem ev_move (x : Operand) : evOp fn P cl dq p (.move x) (some d) ⟨t, ds, H⟩ = some (.normal, ⟨upd t d (St.eval ⟨t, ds, H⟩ x), ds, H⟩) := (rfl)
theorem ev_assign (x : Operand) : evOp fn P cl dq p (.assign x) (some d) ⟨t, ds, H⟩ = some (.normal, ⟨upd t d (St.eval ⟨t, ds, H⟩ x), ds, H⟩) := (rfl)
theorem evOp_vR {op : Op} {x : Option Value} (h : aexec P cl dq p (St.eval ⟨t, ds, H⟩) op H = vR H x) : evOp fn P cl dq p op (some d) ⟨t, ds, H⟩ = stepV t ds H d x := by
  unfold evOp
  rw [h]
  cases x <;> rfl
theorem evOp_vH {op : Op} {x : Option (Value × Heap)} (h : aexec P cl dq p (St.eval ⟨t, ds, H⟩) op H = vH x) : evOp fn P cl dq p op (some d) ⟨t, ds, H⟩ = stepVH t ds d x := by
  unfold evOp
  rw [h]
  rcases x with _ | ⟨v, H'⟩ <;> rfl
theorem evOp_uH {op : Op} {x : Option Heap} (h : aexec P cl dq p (St.eval ⟨t, ds, H⟩) op H = uH x) : evOp fn P cl dq p op none ⟨t, ds, H⟩ = stepU t ds x := by
  unfold evOp
  rw [h]
  cases x <;> rfl
theorem ev_pick (c x y : Operand) : evOp fn P cl dq p (.pick c x y) (some d) ⟨t, ds, H⟩ = stepV t ds H d (pickV (St.eval ⟨t, ds, H⟩ c) (St.eval ⟨t, ds, H⟩ x) (St.eval ⟨t, ds, H⟩ y)) := evOp_vR rfl
theorem ev_build (T : TypeId) (ps : Array (Nat × Operand)) : evOp fn P cl dq p (.build T ps) (some d) ⟨t, ds, H⟩ = stepV t ds H d (bldV P T (ps.map fun (i, x) => (i, St.eval ⟨t, ds, H⟩ x))) := evOp_vR rfl
theorem ev_load (T : TypeId) (a : Operand) : evOp fn P cl dq p (.load T a) (some d) ⟨t, ds, H⟩ = stepV t ds H d (ldA P H T (St.eval ⟨t, ds, H⟩ a)) := evOp_vR rfl
theorem ev_store (T : TypeId) (a x : Operand) : evOp fn P cl dq p (.store T a x) none ⟨t, ds, H⟩ = stepU t ds (stA P H p T (St.eval ⟨t, ds, H⟩ a) (St.eval ⟨t, ds, H⟩ x)) := evOp_uH rfl
theorem ev_bin (op : BinOp) (T T' : TypeId) (x y : Operand) : evOp fn P cl dq p (.binOp op T x y T') (some d) ⟨t, ds, H⟩ = stepV t ds H d (binV P (isC x || isC y) op T (St.eval ⟨t, ds, H⟩ x) (St.eval ⟨t, ds, H⟩ y)) := evOp_vR rfl
theorem ev_un (op : UnOp) (T : TypeId) (x : Operand) : evOp fn P cl dq p (.unOp op T x) (some d) ⟨t, ds, H⟩ = stepV t ds H d (unV P op (St.eval ⟨t, ds, H⟩ x)) := evOp_vR rfl
theorem ev_convert (s T : TypeId) (x : Operand) : evOp fn P cl dq p (.convert s T x) (some d) ⟨t, ds, H⟩ = stepVH t ds d (cvS P p s T (St.eval ⟨t, ds, H⟩ x) H) := evOp_vH rfl
theorem ev_iface (T : TypeId) (x : Operand) : evOp fn P cl dq p (.makeInterface T x) (some d) ⟨t, ds, H⟩ = stepV t ds H d (mkIV P T (St.eval ⟨t, ds, H⟩ x)) := evOp_vR rfl
theorem ev_makeSlice (T : TypeId) (l c : Operand) : evOp fn P cl dq p (.makeSlice T l c) (some d) ⟨t, ds, H⟩ = stepVH t ds d (mkSl P T (St.eval ⟨t, ds, H⟩ l) (St.eval ⟨t, ds, H⟩ c) H) := evOp_vH rfl
theorem ev_slice (T : TypeId) (x : Operand) (lo hi mx : Option Operand) : evOp fn P cl dq p (.slice T x lo hi mx) (some d) ⟨t, ds, H⟩ = stepV t ds H d (sliceV P T (St.eval ⟨t, ds, H⟩ x) (lo.map (St.eval ⟨t, ds, H⟩)) (hi.map (St.eval ⟨t, ds, H⟩)) (mx.map (St.eval ⟨t, ds, H⟩))) := evOp_vR rfl
theorem ev_fieldAddr (T : TypeId) (x : Operand) (f : Nat) : evOp fn P cl dq p (.fieldAddr T x f) (some d) ⟨t, ds, H⟩ = stepV t ds H d (fieldA P T (St.eval ⟨t, ds, H⟩ x) f) := evOp_vR rfl
theorem ev_field (T : TypeId) (x : Operand) (f : Nat) : evOp fn P cl dq p (.field T x f) (some d) ⟨t, ds, H⟩ = stepV t ds H d (fldV P T (St.eval ⟨t, ds, H⟩ x) f) := evOp_vR rfl
theorem ev_indexAddr (T : TypeId) (x i : Operand) : evOp fn P cl dq p (.indexAddr T x i) (some d) ⟨t, ds, H⟩ = stepV t ds H d (idxA P T (St.eval ⟨t, ds, H⟩ x) (St.eval ⟨t, ds, H⟩ i)) := evOp_vR rfl
theorem ev_index (T : TypeId) (x i : Operand) : evOp fn P cl dq p (.index T x i) (some d) ⟨t, ds, H⟩ = stepV t ds H d (idxV P T (St.eval ⟨t, ds, H⟩ x) (St.eval ⟨t, ds, H⟩ i)) := evOp_vR rfl
theorem ev_lookup (T : TypeId) (x k : Operand) (ok : Bool) : evOp fn P cl dq p (.lookup T x k ok) (some d) ⟨t, ds, H⟩ = stepV t ds H d (lookV P T (St.eval ⟨t, ds, H⟩ x) (St.eval ⟨t, ds, H⟩ k) ok H) := evOp_vR rfl
theorem ev_mapUpdate (T : TypeId) (m k v : Operand) : evOp fn P cl dq p (.mapUpdate T m k v) none ⟨t, ds, H⟩ = stepU t ds (mapUp P p T (St.eval ⟨t, ds, H⟩ m) (St.eval ⟨t, ds, H⟩ k) (St.eval ⟨t, ds, H⟩ v) H) := evOp_uH rfl
theorem ev_next (it : Operand) : evOp fn P cl dq p (.next it true) (some d) ⟨t, ds, H⟩ = stepVH t ds d (nextV p (St.eval ⟨t, ds, H⟩ it) H) := evOp_vH rfl
theorem ev_assert (x : Operand) (T T' : TypeId) (ok : Bool) : evOp fn P cl dq p (.typeAssert x T T' ok) (some d) ⟨t, ds, H⟩ = stepV t ds H d (asrtV P (St.eval ⟨t, ds, H⟩ x) T' ok) := evOp_vR rfl
theorem ev_extract (x : Operand) (i : Nat) : evOp fn P cl dq p (.extract x i) (some d) ⟨t, ds, H⟩ = stepV t ds H d (extV (St.eval ⟨t, ds, H⟩ x) i) := evOp_vR rfl
theorem ev_makeFunc (f : Fn) (a b : Array Operand) : evOp fn P cl dq p (.makeFunc f a b) (some d) ⟨t, ds, H⟩ = some (.normal, ⟨upd t d (.func f (a.map (St.eval ⟨t, ds, H⟩)) (b.map (St.eval ⟨t, ds, H⟩))), ds, H⟩) := (rfl)
theorem ev_alloc (T : TypeId) (cs : Array Value) (h : (zer P T).bind cellsV = some cs) : evOp fn P cl dq p (.alloc T) (some d) ⟨t, ds, H⟩ = some (.normal, ⟨upd t d (.pointer (some ⟨H.length, 0, some cs.size⟩)), ds, H ++ [cel T cs]⟩) := by
  unfold evOp
  simp only [aexec, h]
  rfl
def stepB (t : Nat → Value) (ds : List Deferred) (H : Heap) (d : Nat) (T : TypeId) (x : Option (Array Value)) : Option (Exit × St) := x.bind fun cs => some (.normal, ⟨upd t d (.pointer (some ⟨H.length, 0, some cs.size⟩)), ds, H ++ [cel T cs]⟩)
theorem stepB_some (T : TypeId) (cs : Array Value) : stepB t ds H d T (some cs) = some (.normal, ⟨upd t d (.pointer (some ⟨H.length, 0, some cs.size⟩)), ds, H ++ [cel T cs]⟩) := (rfl)
theorem ev_box (T : TypeId) (x : Operand) : evOp fn P cl dq p (.box T x) (some d) ⟨t, ds, H⟩ = stepB t ds H d T (cellsV (St.eval ⟨t, ds, H⟩ x)) := by
  unfold evOp
  simp only [aexec]
  cases cellsV (St.eval ⟨t, ds, H⟩ x) <;> rfl
theorem ev_buildSlice (T : TypeId) (len : Nat) (ps : Array (Nat × Operand)) : evOp fn P cl dq p (.buildSlice T len ps) (some d) ⟨t, ds, H⟩ =
    stepVH t ds d ((fillC P T len (ps.map fun (i, x) => (i, St.eval ⟨t, ds, H⟩ x))).map fun r => (.slice (some ⟨H.length, 0, some r.2.2.size⟩) len r.2.1, H ++ [cel r.1 r.2.2])) := by
  unfold evOp
  simp only [aexec]
  cases fillC P T len (ps.map fun (i, x) => (i, St.eval ⟨t, ds, H⟩ x)) <;> rfl
def nilV : Value → Option Value
  | .pointer (some a) => some (.pointer (some a))
  | _ => none
theorem nilV_some (a : Addr) : nilV (.pointer (some a)) = some (.pointer (some a)) := (rfl)
theorem ev_nilCheck (x : Operand) : evOp fn P cl dq p (.nilCheck x) (some d) ⟨t, ds, H⟩ = stepV t ds H d (nilV (St.eval ⟨t, ds, H⟩ x)) := by
  refine evOp_vR ?_
  simp only [aexec]
  cases St.eval ⟨t, ds, H⟩ x with
  | pointer a => cases a <;> rfl
  | _ => rfl
theorem ev_range (T : TypeId) (x : Operand) (s : ByteArray) (hu : P.underlying T = some .string) (hx : St.eval ⟨t, ds, H⟩ x = .string s) :
    evOp fn P cl dq p (.range T x) (some d) ⟨t, ds, H⟩ = some (.normal, ⟨upd t d (.pointer (some ⟨H.length, 0, some 0⟩)), ds, H ++ [⟨2, 0, #[.string s, .int .i64 0], 0, false, []⟩]⟩) := by
  unfold evOp
  simp only [aexec, hu, hx]
  rfl
theorem ev_makeMap (T k e : TypeId) (hu : P.underlying T = some (.map k e)) :
    evOp fn P cl dq p (.makeMap T none) (some d) ⟨t, ds, H⟩ = some (.normal, ⟨upd t d (.map (some H.length)), ds, H ++ [⟨1, T, #[], 0, false, []⟩]⟩) := by
  unfold evOp
  simp only [aexec, hu]
  rfl
theorem ev_call (f : FuncId) (args : Array Operand) (tys : Array TypeId) (dst : Option Tmp) : evOp fn P cl dq p (.call ⟨.value (.func f), args, tys⟩) dst ⟨t, ds, H⟩ =
    stepF t ds dst (fn f (args.map (St.eval ⟨t, ds, H⟩)) p H) := by
  unfold evOp
  simp only [aexec, acall, dynC, eval_func, Bool.and_false, Bool.false_eq_true, false_and, if_false, Option.bind_some, Array.empty_append, Array.append_empty, stepF]
  congr 1
  funext q
  rcases q with ⟨_ | _ | _, H'⟩ <;> cases dst <;> rfl
theorem ev_callV (x : Nat) (args : Array Operand) (tys : Array TypeId) (dst : Option Tmp) (g : FuncId) (first captured : Array Value) (hx : t x = .func (.func g) first captured) (hc : (dq = true ∧ cl g ≠ 1) = False) :
    evOp fn P cl dq p (.call ⟨.value (.tmp x), args, tys⟩) dst ⟨t, ds, H⟩ = stepF t ds dst (fn g (first ++ args.map (St.eval ⟨t, ds, H⟩) ++ captured) p H) := by
  unfold evOp
  simp only [aexec, acall, dynC, eval_tmp, hx, Bool.and_true, hc, if_false, Option.bind_some, stepF]
  congr 1
  funext q
  rcases q with ⟨_ | _ | _, H'⟩ <;> cases dst <;> rfl
theorem ev_len (x : Operand) (T : TypeId) (hT : lenOkT P T (St.eval ⟨t, ds, H⟩ x) = true) : evOp fn P cl dq p (.call ⟨.builtin .len, #[x], #[T]⟩) (some d) ⟨t, ds, H⟩ = stepV t ds H d (lenV H (St.eval ⟨t, ds, H⟩ x)) := by
  refine evOp_vR ?_
  simp only [aexec, acall, abuiltin, List.map_toArray, List.map_cons, List.map_nil]
  rw [if_pos hT]
def lenW (P : Program) (T : TypeId) (H : Heap) (v : Value) : Option Value := if lenOkT P T v = true then lenV H v else none
theorem ev_lenW (x : Operand) (T : TypeId) : evOp fn P cl dq p (.call ⟨.builtin .len, #[x], #[T]⟩) (some d) ⟨t, ds, H⟩ = stepV t ds H d (lenW P T H (St.eval ⟨t, ds, H⟩ x)) := by
  refine evOp_vR ?_
  simp only [aexec, acall, abuiltin, List.map_toArray, List.map_cons, List.map_nil, lenW]
  by_cases h : lenOkT P T (St.eval ⟨t, ds, H⟩ x) = true
  · rw [if_pos h, if_pos h]
  · rw [if_neg h, if_neg h]; rfl
def appW (P : Program) (p : Nat) (T T' : TypeId) (s x : Value) (H : Heap) : Option (Value × Heap) := if appT P T' = true then appendV P p T s x H else none
theorem ev_appW (x y : Operand) (T T' : TypeId) : evOp fn P cl dq p (.call ⟨.builtin .append, #[x, y], #[T, T']⟩) (some d) ⟨t, ds, H⟩ = stepVH t ds d (appW P p T T' (St.eval ⟨t, ds, H⟩ x) (St.eval ⟨t, ds, H⟩ y) H) := by
  refine evOp_vH ?_
  simp only [aexec, acall, abuiltin, List.map_toArray, List.map_cons, List.map_nil, appW]
  by_cases h : appT P T' = true
  · rw [if_pos h, if_pos h]
  · rw [if_neg h, if_neg h]; rfl
theorem ev_append (x y : Operand) (T T' : TypeId) (hT : appT P T' = true) : evOp fn P cl dq p (.call ⟨.builtin .append, #[x, y], #[T, T']⟩) (some d) ⟨t, ds, H⟩ = stepVH t ds d (appendV P p T (St.eval ⟨t, ds, H⟩ x) (St.eval ⟨t, ds, H⟩ y) H) := by
  refine evOp_vH ?_
  simp only [aexec, acall, abuiltin, List.map_toArray, List.map_cons, List.map_nil]
  rw [if_pos hT]
theorem _root_.Go.Lib.bytes_ext {a b : ByteArray} (h : a.data.toList = b.data.toList) : a = b := by
  obtain ⟨⟨a⟩⟩ := a
  obtain ⟨⟨b⟩⟩ := b
  simp at h
  rw [h]
theorem wrap_i64 {n : Int} (h1 : -9223372036854775808 ≤ n) (h2 : n ≤ 9223372036854775807) : IntKind.i64.wrap n = n := by
  have e : IntKind.i64.wrap n = if n % 18446744073709551616 ≥ 9223372036854775808 then n % 18446744073709551616 - 18446744073709551616 else n % 18446744073709551616 := by
    unfold IntKind.wrap
    simp [IntKind.bits, IntKind.signed]
  rw [e]
  by_cases h : 0 ≤ n
  · rw [Int.emod_eq_of_lt h (by omega), if_neg (by omega)]
  · have : n % 18446744073709551616 = n + 18446744073709551616 := by omega
    rw [this, if_pos (by omega)]
    omega
variable {T : TypeId} {c : Bool}
theorem binV_ints {op : BinOp} {k k' : IntKind} {a b : Int} {v : Value} (h : pureRun P (binOp op T (.int k a) (.int k' b)) = some v) (hv : flat v = true) : binV P c op T (.int k a) (.int k' b) = some v := by
  have hg : pureRun P (eqGuard op T (if c = true then .const .nilIface else .tmp 0) (.tmp 0) (.int k a) (.int k' b)) = some () := by
    unfold eqGuard
    split <;> rfl
  unfold binV
  rw [if_pos (by simp [ground, flat1, flat])]
  unfold binG
  rw [pureRun_bind, hg]
  simp only [Option.bind_some, h, hv, if_true]
theorem bin_eql (k : IntKind) (a b : Int) : binV P c .eql T (.int k a) (.int k b) = some (.bool (decide (a = b))) := binV_ints (by simp [binOp, Op.intCmp, pureRun]; rfl) rfl
theorem bin_neq (k : IntKind) (a b : Int) : binV P c .neq T (.int k a) (.int k b) = some (.bool (!decide (a = b))) := binV_ints (v := .bool (!decide (a = b))) (by
  simp only [binOp, ne_eq, not_true_eq_false, if_false, Op.intCmp]
  show some (Value.bool (a != b)) = _
  rfl) rfl
theorem bin_lss (k : IntKind) (a b : Int) : binV P c .lss T (.int k a) (.int k b) = some (.bool (decide (a < b))) := binV_ints (by simp [binOp, Op.intCmp]; try rfl) rfl
theorem bin_leq (k : IntKind) (a b : Int) : binV P c .leq T (.int k a) (.int k b) = some (.bool (decide (a ≤ b))) := binV_ints (by simp [binOp, Op.intCmp]; try rfl) rfl
theorem bin_gtr (k : IntKind) (a b : Int) : binV P c .gtr T (.int k a) (.int k b) = some (.bool (decide (b < a))) := binV_ints (by simp [binOp, Op.intCmp]; try rfl) rfl
theorem bin_geq (k : IntKind) (a b : Int) : binV P c .geq T (.int k a) (.int k b) = some (.bool (decide (b ≤ a))) := binV_ints (by simp [binOp, Op.intCmp]; try rfl) rfl
theorem bin_add {a b : Int} (h1 : -9223372036854775808 ≤ a + b) (h2 : a + b ≤ 9223372036854775807) : binV P c .add T (.int .i64 a) (.int .i64 b) = some (.int .i64 (a + b)) := by
  rw [binV_ints (v := .int .i64 (IntKind.i64.wrap (a + b))) (by simp [binOp, Op.intArith]; try rfl) rfl, wrap_i64 h1 h2]
theorem bin_sub {a b : Int} (h1 : -9223372036854775808 ≤ a - b) (h2 : a - b ≤ 9223372036854775807) : binV P c .sub T (.int .i64 a) (.int .i64 b) = some (.int .i64 (a - b)) := by
  rw [binV_ints (v := .int .i64 (IntKind.i64.wrap (a - b))) (by simp [binOp, Op.intArith]; try rfl) rfl, wrap_i64 h1 h2]
theorem bin_mul {a b : Int} (h1 : -9223372036854775808 ≤ a * b) (h2 : a * b ≤ 9223372036854775807) : binV P c .mul T (.int .i64 a) (.int .i64 b) = some (.int .i64 (a * b)) := by
  rw [binV_ints (v := .int .i64 (IntKind.i64.wrap (a * b))) (by simp [binOp, Op.intArith]; try rfl) rfl, wrap_i64 h1 h2]
theorem bin_quo {a b : Int} (h0 : b ≠ 0) (h1 : -9223372036854775808 ≤ a.tdiv b) (h2 : a.tdiv b ≤ 9223372036854775807) : binV P c .quo T (.int .i64 a) (.int .i64 b) = some (.int .i64 (a.tdiv b)) := by
  rw [binV_ints (v := .int .i64 (IntKind.i64.wrap (a.tdiv b))) (by simp [binOp, Op.intDiv, h0]; try rfl) rfl, wrap_i64 h1 h2]
theorem bin_rem (k : IntKind) {a b : Int} (h0 : b ≠ 0) : binV P c .rem T (.int k a) (.int k b) = some (.int k (a.tmod b)) :=
  binV_ints (by simp [binOp, Op.intDiv, h0]; try rfl) rfl
theorem un_not (b : Bool) : unV P .not (.bool b) = some (.bool (!b)) := (rfl)
theorem un_neg {a : Int} (h1 : -9223372036854775808 ≤ -a) (h2 : -a ≤ 9223372036854775807) : unV P .neg (.int .i64 a) = some (.int .i64 (-a)) := by
  show some (Value.int .i64 (IntKind.i64.wrap (0 - a))) = _
  rw [wrap_i64 (by omega) (by omega)]
  congr 2
  omega
theorem binV_strs {op : BinOp} {a b : ByteArray} {v : Value} (h : pureRun P (Op.stringOp op a b) = some v) (hv : flat v = true) : binV P c op T (.string a) (.string b) = some v := by
  have hg : pureRun P (eqGuard op T (if c = true then .const .nilIface else .tmp 0) (.tmp 0) (.string a) (.string b)) = some () := by
    unfold eqGuard
    split <;> rfl
  unfold binV
  rw [if_pos (by simp [ground, flat1, flat])]
  unfold binG
  rw [pureRun_bind, hg]
  have : binOp op T (.string a) (.string b) = Op.stringOp op a b := by cases op <;> rfl
  simp only [Option.bind_some, this, h, hv, if_true]
theorem str_add {a b : List UInt8} (h : a.length + b.length ≤ 9223372036854775807) : binV P c .add T (str a) (str b) = some (str (a ++ b)) := by
  refine binV_strs ?_ rfl
  simp only [Op.stringOp]
  rw [if_neg]
  · show some (Value.string (⟨a.toArray⟩ ++ ⟨b.toArray⟩)) = _
    congr 2
  · have : IntKind.i64.max = 9223372036854775807 := by decide
    rw [this]
    simp only [Go.ByteArray.size_mk_toArray]
    omega
theorem str_eql {a b : List UInt8} : binV P c .eql T (str a) (str b) = some (.bool (decide (a = b))) := by
  refine binV_strs ?_ rfl
  simp only [Op.stringOp, Go.Lib.toList_data]
  show some (Value.bool (a == b)) = _
  have e : (a == b) = decide (a = b) := by rw [Bool.eq_iff_iff]; simp
  rw [e]
theorem str_neq {a b : List UInt8} : binV P c .neq T (str a) (str b) = some (.bool (!decide (a = b))) := by
  refine binV_strs ?_ rfl
  simp only [Op.stringOp, Go.Lib.toList_data]
  show some (Value.bool (!(a == b))) = _
  have e : (a == b) = decide (a = b) := by rw [Bool.eq_iff_iff]; simp
  rw [e]
theorem len_str (l : List UInt8) : lenV H (str l) = some (.int .i64 l.length) := (rfl)
theorem lenOk_str (l : List UInt8) (h : P.underlying T = some .string) : lenOkT P T (str l) = true := by simp only [lenOkT, h]
theorem lenW_str (l : List UInt8) (h : P.underlying T = some .string) : lenW P T H (str l) = some (.int .i64 l.length) := by rw [lenW, if_pos (lenOk_str l h)]; rfl
theorem idx_str {l : List UInt8} {n : Int} {b : UInt8} (hu : P.underlying T = some .string) (h0 : 0 ≤ n) (h : l[n.toNat]? = some b) : idxV P T (str l) (.int .i64 n) = some (.int .u8 b.toNat) := by
  simp only [idxV, hu, if_pos h0]
  have : (ByteArray.mk l.toArray)[n.toNat]? = some b := by
    obtain ⟨hlt, hb⟩ := List.getElem?_eq_some_iff.1 h
    rw [getElem?_pos (ByteArray.mk l.toArray) n.toNat hlt]
    simp only [Option.some.injEq]
    exact hb
  rw [this]
  rfl
theorem extract_str (l : List UInt8) (a b : Nat) : (ByteArray.mk l.toArray).extract a b = ByteArray.mk ((l.drop a).take (b - a)).toArray := by
  apply Go.Lib.bytes_ext
  rw [Go.Lib.extract_data]
theorem sl_str {l : List UInt8} {a b : Int} (hu : P.underlying T = some .string) (h0 : 0 ≤ a) (h1 : a ≤ b) (h2 : b ≤ l.length) :
    sliceV P T (str l) (some (.int .i64 a)) (some (.int .i64 b)) none = some (str ((l.drop a.toNat).take (b.toNat - a.toNat))) := by
  simp only [sliceV, hu, Option.isNone_none, if_true, highV, Go.ByteArray.size_mk_toArray]
  rw [if_pos (by omega)]
  simp only [Option.bind_some, lowV]
  rw [if_pos h0]
  simp only [Option.bind_some]
  rw [if_pos (by omega), extract_str]
theorem sl_strLo {l : List UInt8} {a : Int} (hu : P.underlying T = some .string) (h0 : 0 ≤ a) (h1 : a ≤ l.length) :
    sliceV P T (str l) (some (.int .i64 a)) none none = some (str (l.drop a.toNat)) := by
  simp only [sliceV, hu, Option.isNone_none, if_true, highV, Go.ByteArray.size_mk_toArray, Option.bind_some, lowV]
  rw [if_pos h0]
  simp only [Option.bind_some]
  rw [if_pos (by omega), extract_str, List.take_of_length_le (by simp)]
theorem sl_strHi {l : List UInt8} {b : Int} (hu : P.underlying T = some .string) (h0 : 0 ≤ b) (h1 : b ≤ l.length) :
    sliceV P T (str l) none (some (.int .i64 b)) none = some (str (l.take b.toNat)) := by
  simp only [sliceV, hu, Option.isNone_none, if_true, highV, Go.ByteArray.size_mk_toArray]
  rw [if_pos (by omega)]
  simp only [Option.bind_some, lowV]
  rw [if_pos (by omega), extract_str]
  simp
theorem bool_eql (a b : Bool) (hu : P.underlying T = some .bool) : binV P c .eql T (.bool a) (.bool b) = some (.bool (a == b)) := by
  unfold binV
  rw [if_pos (by simp [ground, flat1, flat])]
  unfold binG
  rw [pureRun_bind]
  have hg : pureRun P (eqGuard .eql T (if c = true then .const .nilIface else .tmp 0) (.tmp 0) (.bool a) (.bool b)) = some () := by
    unfold eqGuard
    rfl
  rw [hg]
  simp only [Option.bind_some, binOp, pureRun_bind, Op.equal]
  have : pureRun P (Op.equalIn Op.maxDepth T (.bool a) (.bool b)) = some (a == b) := by
    show pureRun P (Op.equalIn (9999 + 1) T (.bool a) (.bool b)) = _
    unfold Op.equalIn
    rw [pureRun_bind, pureRun_underlying, hu]
    rfl
  rw [this]
  rfl
end Go.AM

namespace Go.AM
open Go
variable {P : Program} {cl : FuncId → Nat} {fn : Fn'} {dq : Bool} {p d : Nat} {t : Nat → Value} {ds : List Deferred} {H : Heap} {ops : Array Oper} {T : TypeId}
def get1 (B : Option Blk) (off n : Nat) : Option Value := B.bind fun B => if B.k = 0 ∧ B.fl ≤ n ∧ off + 1 ≤ n ∧ n ≤ B.c.size then B.c[off]? else none
def getN (B : Option Blk) (off n cnt : Nat) : Option (Array Value) := B.bind fun B => if B.k = 0 ∧ B.fl ≤ n ∧ off + cnt ≤ n ∧ n ≤ B.c.size then some (B.c.extract off (off + cnt)) else none
theorem get1_some (e : TypeId) (c : Array Value) (fl : Nat) (ro : Bool) (m : List (Value × Value)) (off n : Nat) (h : fl ≤ n ∧ off + 1 ≤ n ∧ n ≤ c.size) : get1 (some ⟨0, e, c, fl, ro, m⟩) off n = c[off]? := by
  simp only [get1, Option.bind_some, true_and, if_pos h]
theorem getN_some (e : TypeId) (c : Array Value) (fl : Nat) (ro : Bool) (m : List (Value × Value)) (off n cnt : Nat) (h : fl ≤ n ∧ off + cnt ≤ n ∧ n ≤ c.size) : getN (some ⟨0, e, c, fl, ro, m⟩) off n cnt = some (c.extract off (off + cnt)) := by
  simp only [getN, Option.bind_some, true_and, if_pos h]
theorem ld_one (hs : sz P T = some 1) (ha : isAggD P T = false) (hu : (P.underlying T).isSome = true) (A off n : Nat) : ldA P H T (.pointer (some ⟨A, off, some n⟩)) = get1 H[A]? off n := by
  simp only [ldA, ldv, hs, Option.bind_some, ha, Bool.false_eq_true, if_false, hu, and_self, if_true, rd, get1]
  cases H[A]? with
  | none => rfl
  | some B =>
    simp only [Option.bind_some]
    split
    · rename_i h
      simp only [Option.bind_some]
      rw [Array.getElem?_extract, if_pos (by omega)]
      simp
    · rfl
theorem ld_agg {s : Nat} (hs : sz P T = some s) (ha : isAggD P T = true) (A off n : Nat) : ldA P H T (.pointer (some ⟨A, off, some n⟩)) = (getN H[A]? off n s).bind fun cs => some (.agg cs) := by
  simp only [ldA, ldv, hs, Option.bind_some, ha, if_true, rd, getN]
def put (H : Heap) (prot A off n : Nat) (B : Option Blk) (vs : List Value) : Option Heap :=
  B.bind fun B => if B.k = 0 ∧ prot ≤ A ∧ B.ro = false ∧ B.fl ≤ n ∧ n = B.c.size ∧ off + vs.length ≤ n then some (H.set A { B with c := putAll B.c off vs, fl := n }) else none
theorem put_some (prot A off n : Nat) (e : TypeId) (c : Array Value) (fl : Nat) (m : List (Value × Value)) (vs : List Value) (h : prot ≤ A ∧ fl ≤ n ∧ n = c.size ∧ off + vs.length ≤ n) :
    put H prot A off n (some ⟨0, e, c, fl, false, m⟩) vs = some (H.set A ⟨0, e, putAll c off vs, n, false, m⟩) := by
  simp only [put, Option.bind_some]
  rw [if_pos ⟨trivial, h.1, trivial, h.2.1, h.2.2.1, h.2.2.2⟩]
theorem st_one (hs : sz P T = some 1) (A off n : Nat) (x : Value) (hx : oneC x = true) : stA P H p T (.pointer (some ⟨A, off, some n⟩)) x = put H p A off n H[A]? [x] := by
  have : cellsV x = some #[x] := by cases x <;> first | (simp [oneC] at hx; done) | (simp only [cellsV]; rw [if_pos hx])
  simp only [stA, this, Option.bind_some, hs, List.size_toArray, List.length_cons, List.length_nil, if_true, wr, put, Nat.zero_add]
theorem st_agg {s : Nat} (hs : sz P T = some s) (A off n : Nat) (cs : Array Value) (hx : cs.toList.all oneC = true) (hl : cs.size = s) : stA P H p T (.pointer (some ⟨A, off, some n⟩)) (.agg cs) = put H p A off n H[A]? cs.toList := by
  simp only [stA, cellsV, hx, if_true, Option.bind_some, hs, hl, wr, put]
  simp only [Array.length_toList, hl]
theorem putAll_nil (c : Array Value) (o : Nat) : putAll c o [] = c := (rfl)
theorem putAll_cons (c : Array Value) (o : Nat) (v : Value) (vs : List Value) : putAll c o (v :: vs) = putAll (c.setIfInBounds o v) (o + 1) vs := (rfl)
theorem fa_of {fs : Array Go.Field} {k : Nat} {f : Nat} {fd : Go.Field} (hu : P.underlying T = some (.struct fs)) (hf : fs[f]? = some fd) (hs : sz P fd.type = some (k + 1)) (A off n : Nat) :
    fieldA P T (.pointer (some ⟨A, off, some n⟩)) f = some (.pointer (some ⟨A, off + fd.offset, some n⟩)) := by
  simp only [fieldA, hu, hf, Option.bind_some, hs]
  rw [if_neg]
  simp
theorem fd_one {fs : Array Go.Field} {f : Nat} {fd : Go.Field} (hu : P.underlying T = some (.struct fs)) (hf : fs[f]? = some fd) (hd : (P.underlying fd.type).isSome = true) (ha : isAggD P fd.type = false) (cs : Array Value) :
    fldV P T (.agg cs) f = cs[fd.offset]? := by
  simp only [fldV, hu, hf, Option.bind_some, partV, hd, if_true, ha, Bool.false_eq_true, if_false]
theorem fd_agg {fs : Array Go.Field} {f s : Nat} {fd : Go.Field} (hu : P.underlying T = some (.struct fs)) (hf : fs[f]? = some fd) (hd : (P.underlying fd.type).isSome = true) (ha : isAggD P fd.type = true) (hs : sz P fd.type = some s) (cs : Array Value) :
    fldV P T (.agg cs) f = some (.agg (cs.extract fd.offset (fd.offset + s))) := by
  simp only [fldV, hu, hf, Option.bind_some, partV, hd, if_true, ha, hs, Option.map_some]
theorem cells_one {x : Value} (hx : oneC x = true) : cellsV x = some #[x] := by cases x <;> first | (simp [oneC] at hx; done) | (simp only [cellsV]; rw [if_pos hx])
theorem cells_agg {cs : Array Value} (h : cs.toList.all oneC = true) : cellsV (.agg cs) = some cs := by simp only [cellsV, h, if_true]
theorem oneC_int (k : IntKind) (n : Int) : oneC (.int k n) = true := (rfl)
theorem oneC_bool (b : Bool) : oneC (.bool b) = true := (rfl)
theorem oneC_str (b : ByteArray) : oneC (.string b) = true := (rfl)
theorem oneC_ptr (b : Option Addr) : oneC (.pointer b) = true := (rfl)
theorem oneC_sl (b : Option Addr) (l c : Nat) : oneC (.slice b l c) = true := (rfl)
theorem oneC_func (b : Fn) (x y : Array Value) : oneC (.func b x y) = true := (rfl)
theorem oneC_iface (b : TypeId) (x : Value) : oneC (.iface b x) = true := (rfl)
theorem oneC_nil : oneC .nilIface = true := (rfl)
theorem next_more (A pos : Nat) (s : ByteArray) (fl : Nat) (m : List (Value × Value)) (T : TypeId) (hA : H[A]? = some ⟨2, T, #[.string s, .int .i64 (pos : Nat)], fl, false, m⟩) (hp : p ≤ A) (hlt : pos < s.size) :
    nextV p (.pointer (some ⟨A, 0, some 0⟩)) H = some (.tuple #[.bool true, .int .i64 (pos : Nat), .int .i32 (Utf8.decode s pos).1], H.set A ⟨2, T, #[.string s, .int .i64 ((pos + (Utf8.decode s pos).2 : Nat) : Int)], fl, false, m⟩) := by
  simp only [nextV, hA, Option.bind_some]
  rw [if_pos ⟨trivial, hp, trivial⟩]
  simp only [Int.toNat_natCast]
  rw [if_pos (by omega), if_pos hlt]
theorem next_done (A pos : Nat) (s : ByteArray) (fl : Nat) (m : List (Value × Value)) (T : TypeId) (hA : H[A]? = some ⟨2, T, #[.string s, .int .i64 (pos : Nat)], fl, false, m⟩) (hp : p ≤ A) (hlt : ¬ pos < s.size) :
    nextV p (.pointer (some ⟨A, 0, some 0⟩)) H = some (.tuple #[.bool false], H) := by
  simp only [nextV, hA, Option.bind_some]
  rw [if_pos ⟨trivial, hp, trivial⟩]
  simp only [Int.toNat_natCast]
  rw [if_pos (by omega), if_neg hlt]
theorem ext_tuple (vs : Array Value) (i : Nat) : extV (.tuple vs) i = vs[i]? := (rfl)
def callT (fn : Fn') (cl : FuncId → Nat) (dq : Bool) (p : Nat) (v : Value) (args : Array Value) (t : Nat → Value) (ds : List Deferred) (H : Heap) (dst : Option Tmp) : Option (Exit × St) := match v with
  | .func (.func g) first captured => if dq = true ∧ cl g ≠ 1 then none else stepF t ds dst (fn g (first ++ args ++ captured) p H)
  | _ => none
theorem ev_callT (x : Nat) (args : Array Operand) (tys : Array TypeId) (dst : Option Tmp) : evOp fn P cl dq p (.call ⟨.value (.tmp x), args, tys⟩) dst ⟨t, ds, H⟩ = callT fn cl dq p (t x) (args.map (St.eval ⟨t, ds, H⟩)) t ds H dst := by
  unfold evOp callT
  simp only [aexec, acall, dynC, eval_tmp, Bool.and_true]
  cases t x with
  | func f a b =>
    cases f with
    | func g =>
      simp only
      by_cases h : dq = true ∧ cl g ≠ 1
      · rw [if_pos h, if_pos h]; rfl
      · rw [if_neg h, if_neg h]
        simp only [Option.bind_some, stepF]
        congr 1
        funext q
        rcases q with ⟨_ | _ | _, H'⟩ <;> cases dst <;> rfl
    | _ => rfl
  | _ => rfl
theorem callT_f (g : FuncId) (a b xs : List Value) (dst : Option Tmp) : callT fn cl false p (.func (.func g) a.toArray b.toArray) xs.toArray t ds H dst = stepF t ds dst (fn g (a ++ xs ++ b).toArray p H) := by
  unfold callT
  simp
theorem callT_t (g : FuncId) (a b xs : List Value) (dst : Option Tmp) (h : cl g = 1) : callT fn cl true p (.func (.func g) a.toArray b.toArray) xs.toArray t ds H dst = stepF t ds dst (fn g (a ++ xs ++ b).toArray p H) := by
  unfold callT
  simp [h]
def itB (s : List UInt8) (pos : Nat) : Blk := ⟨2, 0, #[str s, .int .i64 (pos : Nat)], 0, false, []⟩
def dec (s : List UInt8) (pos : Nat) : Nat × Nat := Utf8.decode ⟨s.toArray⟩ pos
def rangeV (P : Program) (T : TypeId) (v : Value) (H : Heap) : Option (Value × Heap) := match P.underlying T, v with
  | some .string, .string s => some (.pointer (some ⟨H.length, 0, some 0⟩), H ++ [⟨2, 0, #[.string s, .int .i64 0], 0, false, []⟩])
  | _, _ => none
theorem ev_rangeV (T : TypeId) (x : Operand) : evOp fn P cl dq p (.range T x) (some d) ⟨t, ds, H⟩ = stepVH t ds d (rangeV P T (St.eval ⟨t, ds, H⟩ x) H) := by
  refine evOp_vH ?_
  simp only [aexec, rangeV]
  generalize P.underlying T = u
  generalize St.eval ⟨t, ds, H⟩ x = v
  cases u with
  | none => rfl
  | some u => cases u <;> first | rfl | (cases v <;> rfl)
theorem range_str (hu : P.underlying T = some .string) (s : List UInt8) : rangeV P T (str s) H = some (.pointer (some ⟨H.length, 0, some 0⟩), H ++ [itB s 0]) := by
  simp only [rangeV, hu]
  rfl
def nextB (p A : Nat) (B : Option Blk) (H : Heap) : Option (Value × Heap) := match B with
  | some B => if B.k = 2 ∧ p ≤ A ∧ B.ro = false then match B.c.toList with
      | [.string s, .int .i64 pos] => if 0 ≤ pos then
          if pos.toNat < s.size then let cw := Utf8.decode s pos.toNat
            some (.tuple #[.bool true, .int .i64 pos.toNat, .int .i32 cw.1], H.set A { B with c := #[.string s, .int .i64 (pos.toNat + cw.2 : Nat)] })
          else some (.tuple #[.bool false], H)
        else none
      | _ => none
    else none
  | none => none
theorem next_nextB (A : Nat) : nextV p (.pointer (some ⟨A, 0, some 0⟩)) H = nextB p A H[A]? H := by
  simp only [nextV, nextB]
  cases H[A]? <;> rfl
theorem nextB_more (p A pos : Nat) (s : List UInt8) (h : p ≤ A ∧ pos < s.length) : nextB p A (some (itB s pos)) H = some (.tuple #[.bool true, .int .i64 (pos : Nat), .int .i32 (dec s pos).1], H.set A (itB s (pos + (dec s pos).2))) := by
  simp only [nextB, itB]
  rw [if_pos ⟨trivial, h.1, trivial⟩]
  simp only [Int.toNat_natCast]
  rw [if_pos (by omega)]
  exact if_pos h.2
theorem nextB_done (p A pos : Nat) (s : List UInt8) (h : p ≤ A ∧ ¬ pos < s.length) : nextB p A (some (itB s pos)) H = some (.tuple #[.bool false], H) := by
  simp only [nextB, itB]
  rw [if_pos ⟨trivial, h.1, trivial⟩]
  simp only [Int.toNat_natCast]
  rw [if_pos (by omega)]
  exact if_neg h.2
theorem finish_ret (rs : Array ResultVar) (H H' : Heap) (t : Nat → Value) : finish P false rs H (some (.ret, ⟨t, [], H'⟩)) = (resOf P rs ⟨t, [], H'⟩).bind fun v => some (.returned v, H') := by
  simp only [finish, Option.bind_some, Bool.false_and, Bool.false_eq_true, if_false]
  cases resOf P rs ⟨t, [], H'⟩ <;> rfl
theorem finish_normal (rs : Array ResultVar) (H H' : Heap) (t : Nat → Value) : finish P false rs H (some (.normal, ⟨t, [], H'⟩)) = (resOf P rs ⟨t, [], H'⟩).bind fun v => some (.returned v, H') := by
  simp only [finish, Option.bind_some, Bool.false_and, Bool.false_eq_true, if_false]
  cases resOf P rs ⟨t, [], H'⟩ <;> rfl
theorem resOf_one (i : Nat) (t : Nat → Value) (ds : List Deferred) (H : Heap) : resOf P #[.tmp i] ⟨t, ds, H⟩ = some (t i) := (rfl)
theorem resOf_two (i j : Nat) (t : Nat → Value) (ds : List Deferred) (H : Heap) : resOf P #[.tmp i, .tmp j] ⟨t, ds, H⟩ = some (.tuple #[t i, t j]) := (rfl)
theorem resOf_three (i j k : Nat) (t : Nat → Value) (ds : List Deferred) (H : Heap) : resOf P #[.tmp i, .tmp j, .tmp k] ⟨t, ds, H⟩ = some (.tuple #[t i, t j, t k]) := (rfl)
theorem purely_ret (H H' : Heap) (v : Value) (h : ground v = true) : purely H (some (.returned v, H')) = some (.returned v, H) := by simp only [purely, Option.bind_some, h, if_true]
theorem pickV_t (x y : Value) : pickV (.bool true) x y = some x := (rfl)
theorem pickV_f (x y : Value) : pickV (.bool false) x y = some y := (rfl)
theorem g_bool (b : Bool) : ground (.bool b) = true := (rfl)
theorem g_int (k : IntKind) (b : Int) : ground (.int k b) = true := (rfl)
theorem g_str (b : ByteArray) : ground (.string b) = true := (rfl)
theorem g_agg (cs : Array Value) : ground (.agg cs) = cs.toList.all flat := by simp only [ground, flat1, Array.all_toList]
theorem g_tuple (cs : Array Value) : ground (.tuple cs) = cs.toList.all flat1 := by simp only [ground, Array.all_toList]
theorem f1_int (k : IntKind) (b : Int) : flat1 (.int k b) = true := (rfl)
theorem f1_str (b : ByteArray) : flat1 (.string b) = true := (rfl)
theorem f1_bool (b : Bool) : flat1 (.bool b) = true := (rfl)
theorem f1_agg (cs : Array Value) : flat1 (.agg cs) = cs.toList.all flat := by simp only [flat1, Array.all_toList]
theorem f_int (k : IntKind) (b : Int) : flat (.int k b) = true := (rfl)
theorem f_str (b : ByteArray) : flat (.string b) = true := (rfl)
theorem f_bool (b : Bool) : flat (.bool b) = true := (rfl)
attribute [go_sem] opThen_eq E_seq E_region E_draw E_ret E_skip E_exit E_label E_cond' E_block List.toList_toArray evOps_plain evOps_guard evOps_nil ev_move ev_assign ev_bin ev_pick ev_un ev_build ev_load ev_store ev_convert ev_iface ev_slice ev_fieldAddr ev_field ev_indexAddr ev_index ev_extract ev_box ev_call ev_nilCheck ev_makeFunc ev_next ev_makeSlice ev_buildSlice eval_tmp eval_const eval_func eval_global andThen_normal andThen_ret andThen_exit blockOut_exit blockOut_normal blockOut_ret drawn_normal isC_tmp isC_const Bool.or_false Bool.or_true Bool.true_or Bool.false_or upd_at selU_true selU_false ev_lenW ev_appW Nat.reduceBEq getD_0 getD_s getD_nil
attribute [go_sem] bin_geq bin_leq bin_lss bin_gtr bin_eql bin_neq str_eql str_neq stepV_some stepVH_some stepU_some stepF_some stepF_none stepB_some List.getElem?_toArray List.getElem?_cons_zero List.getElem?_cons_succ List.getElem?_nil guardV_dst guardB_bool guardB_undef ifWant_some condR_bool pickB_true pickB_false beq_true beq_false decide_eq_true_eq decide_true decide_false un_not Bool.not_eq_true' decide_eq_false_iff_not Bool.not_true Bool.not_false Bool.true_and Bool.false_and Bool.and_true Bool.and_false
attribute [go_sem] Bool.not_eq_false' Bool.and_eq_true Bool.or_eq_true Bool.or_eq_false_iff
attribute [go_sem] andThen_goto blockOut_goto E_goto ev_callT callT_f callT_t List.append_nil Int.cast_ofNat_Int Int.reduceLT Int.reduceLE Int.reduceAdd Int.reduceSub Int.reduceMul Int.reduceNeg Int.reduceToNat Int.toNat_natCast Nat.reduceSub Nat.reduceMul Int.reduceEq Nat.reduceLT not_false_eq_true not_true_eq_false Nat.le_refl ev_rangeV next_nextB nextB_more nextB_done
attribute [go_sem] finish_ret finish_normal resOf_one resOf_two resOf_three Option.map_some Option.bind_some Option.map_none purely_ret pickV_t pickV_f g_bool g_int g_str g_agg g_tuple f1_int f1_str f1_bool f1_agg f_int f_str f_bool get1_some getN_some put_some putAll_nil putAll_cons cells_one cells_agg oneC_int oneC_bool oneC_str oneC_ptr oneC_sl oneC_func oneC_iface oneC_nil cel List.length_nil List.length_cons List.nil_append List.cons_append List.map_toArray List.map_cons List.map_nil List.size_toArray List.extract_toArray List.setIfInBounds_toArray List.set_cons_zero List.set_cons_succ Nat.reduceAdd Nat.reduceLeDiff Nat.zero_le and_self true_and and_true List.all_toArray List.all_cons List.all_nil ext_tuple List.getElem?_set_self List.length_append Nat.reduceEqDiff if_true if_false eq_self Nat.zero_add Bool.false_eq_true
end Go.AM

namespace Go.AM
open Go
open Go.RowKit (Below)
variable {P : Program} {N0 : Nat} {W0 : World} {cl : FuncId → Nat} {X : Exts}
def noMp : Mp := fun _ _ => none
theorem noMp_le (M : Mp) : Mle noMp M := fun _ _ _ e => by cases e
theorem vrl_ground {M : Mp} {xs ys : List Value} (h : xs.all ground = true) : VRL M xs ys ↔ ys = xs := by
  rw [List.all_eq_true] at h
  constructor
  · intro hv
    obtain ⟨hl, hi⟩ := vrl_iff.1 hv
    apply List.ext_getElem? 
    intro i
    by_cases hlt : i < xs.length
    · have h1 := List.getElem?_eq_getElem hlt
      have h2 := List.getElem?_eq_getElem (l := ys) (i := i) (by omega)
      have := (vr_ground (h _ (List.getElem_mem hlt))).1 (hi i _ _ h1 h2)
      rw [h1, h2, this]
    · rw [List.getElem?_eq_none (by omega), List.getElem?_eq_none (by omega)]
  · rintro rfl
    exact vrl_iff.2 ⟨rfl, fun i x y hx hy => by
      rw [hx] at hy; cases hy
      exact (vr_ground (h _ (List.mem_of_getElem? hx))).2 rfl⟩
theorem HR.empty {w : World} (h : Below N0 W0 w) (hn : N0 ≤ w.heap.size) : HR N0 W0 noMp [] w :=
  ⟨h, hn, fun A n b base ext e => (by cases e), fun A n A' n' b base ext base' ext' e _ _ => (by cases e)⟩
def exG (g : Array Value → Option Value) : Array Value → Nat → Heap → Option (Ending × Heap) := fun args _ H => (g args).map fun v => (.returned v, H)
theorem ext_plain {f : FuncId} {g : Array Value → Option Value} (hT : Taken P f) (hg : ∀ args v, g args = some v → args.toList.all ground = true ∧ ∀ w, Below N0 W0 w → N0 ≤ w.heap.size →
    Calls P f args w fun e w' => ∃ v', e = .returned v' ∧ VR noMp v v' ∧ Below w.heap.size w w') : ExtSound P N0 W0 f (exG g) := by
  refine ⟨hT, fun args prot H e H' h hp => ?_⟩
  unfold exG at h
  obtain ⟨v, hv, h⟩ := Option.map_eq_some_iff.1 h
  cases h
  obtain ⟨h1, h2⟩ := hg args v hv
  refine ⟨.refl _ _, fun M w args' hH hvl => ?_⟩
  have : args' = args := Array.ext' ((vrl_ground h1).1 hvl)
  subst this
  refine Calls.mono (h2 w hH.below hH.n0) ?_
  rintro e w' ⟨v', rfl, k1, k2⟩
  exact ⟨M, .refl _, hH.world k2, vr_mono (noMp_le M) k1, ⟨fun _ _ _ => rfl, fun B0 hB hM => ⟨k2.mono hB, hM⟩⟩⟩
theorem plain_calls (G : Good P N0 W0 cl X) {f : FuncId} {args : Array Value} {v : Value} {H' : Heap} (h : limF P cl X f args 0 [] = some (.returned v, H')) (hg : args.toList.all ground = true) (hv : ground v = true) {w : World} (hb : Below N0 W0 w) (hn : N0 ≤ w.heap.size) :
    Calls P f args w fun e w' => e = .returned v ∧ Below w.heap.size w w' := by
  refine Calls.mono (F_sound G h (Nat.le_refl _) (HR.empty hb hn) ((vrl_ground hg).2 rfl)) ?_
  rintro e w' ⟨M', _, h2, h3, h4⟩
  refine ⟨?_, ?_⟩
  · cases e with
    | returned v' => rw [(vr_ground hv).1 h3]
    | _ => exact h3.elim
  · exact (h4.blk w.heap.size (Nat.le_refl _) fun A n b base ext _ e => (by cases e)).1
end Go.AM

namespace Go.AM
open Go
variable {P : Program} {T : TypeId}
def fieldsEq (P : Program) (d : Nat) (xs ys : Array Value) : List Go.Field → Option Bool
  | [] => some true
  | f :: fs => if f.name ≠ "_" then (partV P f.type xs f.offset).bind fun a => (partV P f.type ys f.offset).bind fun b => (pureRun P (Op.equalIn d f.type a b)).bind fun e => if e = true then fieldsEq P d xs ys fs else some false
    else fieldsEq P d xs ys fs
theorem eq_struct {fs : Array Go.Field} (hu : P.underlying T = some (.struct fs)) (hs : P.stoodInHeld T = false) (d : Nat) (xs ys : Array Value) :
    pureRun P (Op.equalIn (d + 1) T (.agg xs) (.agg ys)) = fieldsEq P d xs ys fs.toList := by
  unfold Op.equalIn
  rw [pureRun_bind, pureRun_underlying, hu]
  simp only [Option.bind_some]
  rw [pureRun_bind]
  have hp : pureRun P program = some P := rfl
  rw [hp]
  simp only [Option.bind_some, hs, Bool.false_eq_true, if_false]
  rw [← Array.forIn_toList, pureRun_bind]
  have key : ∀ (l : List Go.Field), (pureRun P (forIn (m := Sem) l ((none, ()) : Option Bool × Unit) fun f __s =>
            if f.name ≠ "_" then do
              let __do_lift ← part f.type xs f.offset
              let __do_lift_1 ← part f.type ys f.offset
              let __do_lift ← Op.equalIn d f.type __do_lift __do_lift_1
              if (!__do_lift) = true then pure (ForInStep.done (some false, ())) else pure (ForInStep.yield (none, ()))
            else pure (ForInStep.yield (none, ())))).map (fun r => match r.1 with | some r => r | none => true) = fieldsEq P d xs ys l := by
    intro l
    induction l with
    | nil => rfl
    | cons f l ih =>
      rw [List.forIn_cons, fieldsEq, pureRun_bind]
      by_cases hn : f.name ≠ "_"
      · rw [if_pos hn, if_pos hn]
        simp only [pureRun_bind, pureRun_part]
        cases partV P f.type xs f.offset with
        | none => rfl
        | some a =>
          cases partV P f.type ys f.offset with
          | none => rfl
          | some b =>
            simp only [Option.bind_some]
            cases pureRun P (Op.equalIn d f.type a b) with
            | none => rfl
            | some e =>
              cases e
              · rfl
              · simp only [Option.bind_some]
                exact ih
      · rw [if_neg hn, if_neg hn]
        exact ih
  rw [← key fs.toList]
  cases pureRun P (forIn (m := Sem) fs.toList _ _) with
  | none => rfl
  | some r => rcases r with ⟨_ | r, _⟩ <;> rfl
theorem eqIn_string (hu : P.underlying T = some .string) (d : Nat) (a b : List UInt8) : pureRun P (Op.equalIn (d + 1) T (str a) (str b)) = some (decide (a = b)) := by
  unfold Op.equalIn
  rw [pureRun_bind, pureRun_underlying, hu]
  show some ((ByteArray.mk a.toArray) == (ByteArray.mk b.toArray)) = _
  congr 1
  rw [Bool.eq_iff_iff]
  show (a.toArray == b.toArray) = true ↔ _
  simp
theorem eqIn_int {k0 : IntKind} (hu : P.underlying T = some (.int k0)) (d : Nat) (k : IntKind) (a b : Int) : pureRun P (Op.equalIn (d + 1) T (.int k a) (.int k b)) = some (decide (a = b)) := by
  unfold Op.equalIn
  rw [pureRun_bind, pureRun_underlying, hu]
  simp only [Option.bind_some, if_true]
  show some (a == b) = _
  rfl
theorem eqIn_bool (hu : P.underlying T = some .bool) (d : Nat) (a b : Bool) : pureRun P (Op.equalIn (d + 1) T (.bool a) (.bool b)) = some (a == b) := by
  unfold Op.equalIn
  rw [pureRun_bind, pureRun_underlying, hu]
  rfl
theorem bin_eqAgg {c : Bool} {xs ys : Array Value} {b : Bool} (hg : P.eqGuardType P.depth T = false) (hx : ground (.agg xs) = true) (hy : ground (.agg ys) = true) (h : pureRun P (Op.equalIn (9999 + 1) T (.agg xs) (.agg ys)) = some b) :
    binV P c .eql T (.agg xs) (.agg ys) = some (.bool b) ∧ binV P c .neq T (.agg xs) (.agg ys) = some (.bool (!b)) := by
  have hgd : ∀ op, op = .eql ∨ op = .neq → pureRun P (eqGuard op T (if c = true then .const .nilIface else .tmp 0) (.tmp 0) (.agg xs) (.agg ys)) = some () := by
    rintro op (rfl | rfl)
    · unfold eqGuard
      simp only [Bool.not_true, Bool.false_eq_true, if_false, pureRun_bind, pureRun_program, Option.bind_some, hg, Bool.not_false, if_true]
      rfl
    · unfold eqGuard
      simp only [Bool.not_true, Bool.false_eq_true, if_false, pureRun_bind, pureRun_program, Option.bind_some, hg, Bool.not_false, if_true]
      rfl
  constructor
  · unfold binV
    rw [if_pos (by rw [hx, hy]; rfl)]
    unfold binG
    rw [pureRun_bind, hgd _ (.inl rfl)]
    simp only [Option.bind_some, binOp, pureRun_bind, Op.equal]
    rw [show Op.maxDepth = 9999 + 1 from rfl, h]
    rfl
  · unfold binV
    rw [if_pos (by rw [hx, hy]; rfl)]
    unfold binG
    rw [pureRun_bind, hgd _ (.inr rfl)]
    simp only [Option.bind_some, binOp, pureRun_bind, Op.equal]
    rw [show Op.maxDepth = 9999 + 1 from rfl, h]
    rfl
end Go.AM

namespace Go.AM
open Go
variable {P : Program} {T : TypeId}
def plOf (l : List (Nat × Nat)) : Nat → Option (Nat × Nat) := fun i => l[i]?
theorem plOf_at (l : List (Nat × Nat)) (i : Nat) : plOf l i = l[i]? := (rfl)
theorem places_of {fs : Array Go.Field} {l : List (Nat × Nat)} (hu : P.underlying T = some (.struct fs)) (hm : pureRun P (fs.mapM fun f => do pure (f.offset, ← sizeOf f.type)) = some l.toArray) : placesV P T = some (plOf l) := by
  simp only [placesV, hu, hm, Option.map_some]
  congr 1
  funext i
  simp [plOf]
def fillA (pl : Nat → Option (Nat × Nat)) (cs : Array Value) (ps : List (Nat × Value)) : Option (Array Value) := Instr.fill pl cs ps
def bldF (pl : Nat → Option (Nat × Nat)) (cs : Array Value) (ps : List (Nat × Value)) : Option Value := (fillA pl cs ps).map .agg
theorem bld_struct {z : Value} {l : List (Nat × Nat)} (hz : zer P T = some z) (hp : placesV P T = some (plOf l)) (ps : List (Nat × Value)) (h : ps.all (fun p => (cellsV p.2).isSome) = true) : bldV P T ps.toArray = bldF (plOf l) z.cells ps := by
  unfold bldV
  rw [if_pos h, hz, hp]
  rfl
def fillS (q : Option (Nat × Nat)) (pl : Nat → Option (Nat × Nat)) (cs : Array Value) (v : Value) (rest : List (Nat × Value)) : Option (Array Value) := match q with
  | none => none
  | some (off, size) => if v.cells.size ≠ size || off + v.cells.size > cs.size then none
      else Instr.fill pl (v.cells.zipIdx.foldl (fun cs (c, j) => cs.setIfInBounds (off + j) c) cs) rest
theorem fill_cons (pl : Nat → Option (Nat × Nat)) (cs : Array Value) (i : Nat) (v : Value) (rest : List (Nat × Value)) : fillA pl cs ((i, v) :: rest) = fillS (pl i) pl cs v rest := by
  unfold fillA
  rw [Instr.fill]
  unfold fillS
  cases pl i with
  | none => rfl
  | some q => rfl
theorem fill_nil (pl : Nat → Option (Nat × Nat)) (cs : Array Value) : fillA pl cs [] = some cs := (rfl)
theorem cells_of_one {v : Value} (h : oneC v = true) : v.cells = #[v] := by cases v <;> first | rfl | (simp [oneC] at h)
theorem fillS_one (off : Nat) (pl : Nat → Option (Nat × Nat)) (cs : Array Value) (v : Value) (rest : List (Nat × Value)) (h : oneC v = true ∧ off + 1 ≤ cs.size) : fillS (some (off, 1)) pl cs v rest = fillA pl (cs.setIfInBounds off v) rest := by
  unfold fillS fillA
  simp only [cells_of_one h.1]
  rw [if_neg]
  · rfl
  · have := h.2
    simp
    omega
theorem foldl_putAll : ∀ (vs : List Value) (k off : Nat) (cs : Array Value), (vs.zipIdx k).foldl (fun (cs : Array Value) (x : Value × Nat) => cs.setIfInBounds (off + x.2) x.1) cs = putAll cs (off + k) vs
  | [], _, _, _ => rfl
  | v :: vs, k, off, cs => by
    rw [List.zipIdx_cons, List.foldl_cons, foldl_putAll vs (k + 1)]
    rfl
theorem fillS_agg (off s : Nat) (pl : Nat → Option (Nat × Nat)) (cs vs : Array Value) (rest : List (Nat × Value)) (h : vs.size = s ∧ off + s ≤ cs.size) : fillS (some (off, s)) pl cs (.agg vs) rest = fillA pl (putAll cs off vs.toList) rest := by
  unfold fillA
  have key : fillS (some (off, s)) pl cs (.agg vs) rest = if (decide (vs.size ≠ s) || decide (off + vs.size > cs.size)) = true then none else Instr.fill pl (vs.zipIdx.foldl (fun cs (c, j) => cs.setIfInBounds (off + j) c) cs) rest := rfl
  rw [key, if_neg]
  · congr 1
    have := foldl_putAll vs.toList 0 off cs
    rw [Nat.add_zero] at this
    rw [← this, ← Array.foldl_toList, Array.toList_zipIdx]
  · have := h.2
    have := h.1
    simp
    omega
theorem bldF_some (pl : Nat → Option (Nat × Nat)) (cs : Array Value) (ps : List (Nat × Value)) : bldF pl cs ps = (fillA pl cs ps).bind fun c => some (.agg c) := by
  unfold bldF
  cases fillA pl cs ps <;> rfl
attribute [go_sem] plOf_at bldF_some fill_cons fill_nil fillS_one fillS_agg
end Go.AM

namespace Go.AM
open Go
variable {P : Program} {T e : TypeId} {H : Heap}
theorem ia_sl {s : Nat} (hu : P.underlying T = some (.slice e)) (hs : sz P e = some s) (A off n len : Nat) (i : Int) (h : 0 ≤ i ∧ i < len) :
    idxA P T (.slice (some ⟨A, off, some n⟩) len s) (.int .i64 i) = some (.pointer (some ⟨A, off + i.toNat * s, some n⟩)) := by
  simp only [idxA, hu, hs, Option.bind_some]
  rw [if_pos ⟨h.1, h.2, trivial⟩]
theorem slh_sl {s : Nat} (hu : P.underlying T = some (.slice e)) (hs : sz P e = some s) (A off n len : Nat) (hi : Int) (h : 0 ≤ hi ∧ hi ≤ len) :
    sliceV P T (.slice (some ⟨A, off, some n⟩) len s) none (some (.int .i64 hi)) none = some (.slice (some ⟨A, off, some n⟩) hi.toNat s) := by
  simp only [sliceV, hu, hs, Option.bind_some, highV]
  rw [if_pos h]
  simp only [Option.bind_some, lowV, Option.isSome_none, Bool.false_eq_true, false_implies, and_true, Nat.zero_mul, Nat.add_zero, Nat.sub_zero]
  rw [if_pos (Nat.zero_le _)]
theorem mk_sl {s b : Nat} {z : Value} (hu : P.underlying T = some (.slice e)) (hs : sz P e = some 1) (hb : bts P e = some b) (hz : zer P e = some z) (h1 : oneC z = true) (n : Nat) (h : n ≤ 2 ^ 47 ∧ b * n ≤ 2 ^ 47) :
    mkSl P T (.int .i64 (n : Nat)) (.int .i64 (n : Nat)) H = some (.slice (some ⟨H.length, 0, some n⟩) n 1, H ++ [⟨0, e, (List.replicate n z).toArray, 0, false, []⟩]) := by
  simp only [mkSl, hu, hs, hb, hz, Option.bind_some, cells_one h1]
  rw [if_pos ⟨by omega, Int.le_refl _, by have := h.1; omega, by have := h.2; exact_mod_cast this, rfl⟩]
  simp only [Int.toNat_natCast, Nat.mul_one, cel, zeros]
  have e1 : ∀ k : Nat, (List.replicate k [z]).flatten = List.replicate k z := by
    intro k
    induction k with
    | zero => rfl
    | succ k ih => rw [List.replicate_succ, List.flatten_cons, ih]; rfl
  rw [e1]
theorem putAll_one (l : List Value) (off : Nat) (v : Value) : putAll l.toArray off [v] = (l.set off v).toArray := by
  rw [putAll, putAll, List.setIfInBounds_toArray]
theorem len_sl {s : Nat} (hu : P.underlying T = some (.slice e)) (a : Addr) (n : Nat) : lenW P T H (.slice (some a) n s) = some (.int .i64 n) := by
  simp only [lenW, lenOkT, hu, if_true, lenV]
end Go.AM

namespace Go.AM
open Go
variable {P : Program} {cl : FuncId → Nat} {fn : Fn'} {dq : Bool} {p d : Nat} {t : Nat → Value} {ds : List Deferred} {H : Heap}
def minW (P : Program) (a b : Value) : Option Value := if #[a, b].all flat = true then (pureRun P (Builtin.min_ #[] 0 #[a, b])).bind fun v => if flat v = true then some v else none else none
theorem ev_min (x y : Operand) (T T' : TypeId) : evOp fn P cl dq p (.call ⟨.builtin .min, #[x, y], #[T, T']⟩) (some d) ⟨t, ds, H⟩ = stepV t ds H d (minW P (St.eval ⟨t, ds, H⟩ x) (St.eval ⟨t, ds, H⟩ y)) := by
  refine evOp_vR ?_
  simp only [aexec, acall, abuiltin, List.map_toArray, List.map_cons, List.map_nil, minW]
  split <;> rfl
theorem min_int (k : IntKind) (a b : Int) : minW P (.int k a) (.int k b) = some (.int k (if b < a then b else a)) := by
  unfold minW
  rw [if_pos (by simp [flat])]
  rfl
theorem finishq_ret (rs : Array ResultVar) (H H' : Heap) (t : Nat → Value) : finish P true rs H (some (.ret, ⟨t, [], H'⟩)) = (resOf P rs ⟨t, [], H'⟩).bind fun v => some (.returned v, if ground v = true then H else H') := by
  simp only [finish, Option.bind_some, Bool.true_and]
  cases resOf P rs ⟨t, [], H'⟩ <;> rfl
theorem F_quiet {X : Exts} {f : FuncId} {fn : Func} {c : Code} {a : Array Value} {p : Nat} {H : Heap} (hX : X f = none) (hc : cl f = 1) (hpu : pu cl f = false) (hf : P.funcs[f]? = some fn) (hb : fn.body = some c) :
    limF P cl X f a p H = finish P true fn.results H (limR P cl X c H.length { t := fun i => a.getD i undef, ds := [], H }) := by
  rw [F_body hX (by omega) (by omega) hpu hf hb, if_pos hc, hc]
  rfl
theorem F_loud {X : Exts} {f : FuncId} {fn : Func} {c : Code} {a : Array Value} {p : Nat} {H : Heap} (hX : X f = none) (hc : cl f = 3) (hpu : pu cl f = false) (hf : P.funcs[f]? = some fn) (hb : fn.body = some c) :
    limF P cl X f a p H = finish P false fn.results H (limR P cl X c p { t := fun i => a.getD i undef, ds := [], H }) := by
  rw [F_body hX (by omega) (by omega) hpu hf hb, if_neg (by omega), hc]
  rfl
theorem g_sl (a : Addr) (n s : Nat) : ground (.slice (some a) n s) = false := (rfl)
end Go.AM
namespace Go.AM
theorem set_same {α : Type} {l : List α} {A : Nat} {x : α} (h : l[A]? = some x) : l.set A x = l := by
  apply List.ext_getElem?
  intro i
  by_cases hi : A = i
  · subst hi
    rw [h, List.getElem?_set_self (List.getElem?_eq_some_iff.1 h).1]
  · rw [List.getElem?_set_ne hi]
end Go.AM
namespace Go.AM
open Go
variable {P : Program} {cl : FuncId → Nat} {H : Heap}
theorem pureRun_underlying' {src : TypeId} {u : TypeDesc} (h : P.underlying src = some u) {α : Type} (k : TypeDesc → Sem α) : pureRun P (underlying src >>= k) = pureRun P (k u) := by
  rw [pureRun_bind, pureRun_underlying, h]
  rfl
theorem conv_intInt {src dst : TypeId} {k k' j : IntKind} (hs : P.underlying src = some (.int j)) (hd : P.underlying dst = some (.int k')) (n : Int) : convV P src dst (.int k n) H = some (.int k' (k'.wrap n), H) := by
  unfold convV
  rw [hs, hd]
  simp only
  have hf : flat (Value.int k n) = true := rfl
  rw [if_pos hf]
  unfold convert
  rw [pureRun_underlying' hs, pureRun_underlying' hd]
  rfl
theorem conv_intStr {src dst : TypeId} {k j : IntKind} (hs : P.underlying src = some (.int j)) (hd : P.underlying dst = some .string) (n : Int) : convV P src dst (.int k n) H = some (.string (Utf8.encode n), H) := by
  unfold convV
  rw [hs, hd]
  simp only
  have hf : flat (Value.int k n) = true := rfl
  rw [if_pos hf]
  unfold convert
  rw [pureRun_underlying' hs, pureRun_underlying' hd]
  rfl
theorem scope_one {X : Exts} {c : Code} {p : Nat} {s s' : St} {e : Exit} (h : limR P cl X c p s = some (e, s')) (he : ∀ l, e ≠ .goto l) : limR P cl X (.scope c) p s = some (e, s') := by
  refine E_scope 1 ?_
  rw [scopeGo, h]
  cases e with
  | goto l => exact absurd rfl (he l)
  | _ => rfl
noncomputable def scopeR (P : Program) (cl : FuncId → Nat) (X : Exts) (c : Code) (p : Nat) (s : St) (r : Option (Exit × St)) : Option (Exit × St) := match r with
  | none => limR P cl X (.scope c) p s
  | some (.goto _, _) => limR P cl X (.scope c) p s
  | r => r
theorem E_scopeR {X : Exts} {c : Code} {p : Nat} {s : St} : limR P cl X (.scope c) p s = scopeR P cl X c p s (limR P cl X c p s) := by
  cases h : limR P cl X c p s with
  | none => rfl
  | some y =>
    obtain ⟨e, s'⟩ := y
    cases e with
    | goto l => rfl
    | _ => exact scope_one h fun l h => by cases h
theorem scopeR_ret {X : Exts} {c : Code} {p : Nat} {s s' : St} : scopeR P cl X c p s (some (.ret, s')) = some (.ret, s') := (rfl)
theorem scopeR_exit {X : Exts} {c : Code} {p i : Nat} {s s' : St} : scopeR P cl X c p s (some (.exit i, s')) = some (.exit i, s') := (rfl)
theorem scopeR_normal {X : Exts} {c : Code} {p : Nat} {s s' : St} : scopeR P cl X c p s (some (.normal, s')) = some (.normal, s') := (rfl)
attribute [go_sem] scopeR_ret scopeR_exit scopeR_normal
theorem wrap_u8 {n : Int} (h1 : 0 ≤ n) (h2 : n < 256) : IntKind.u8.wrap n = n := by
  have e : IntKind.u8.wrap n = n % 256 := by
    unfold IntKind.wrap
    simp [IntKind.bits, IntKind.signed]
  rw [e]
  omega
theorem wrap_i32 {n : Int} (h1 : -2147483648 ≤ n) (h2 : n ≤ 2147483647) : IntKind.i32.wrap n = n := by
  have e : IntKind.i32.wrap n = if n % 4294967296 ≥ 2147483648 then n % 4294967296 - 4294967296 else n % 4294967296 := by
    unfold IntKind.wrap
    simp [IntKind.bits, IntKind.signed]
  rw [e]
  by_cases h : 0 ≤ n
  · rw [Int.emod_eq_of_lt h (by omega), if_neg (by omega)]
  · have : n % 4294967296 = n + 4294967296 := by omega
    rw [this, if_pos (by omega)]
    omega
end Go.AM
namespace Go.AM
open Go
variable {P : Program} {cl : FuncId → Nat} {fn : Fn'} {dq : Bool} {p d : Nat} {t : Nat → Value} {ds : List Deferred} {H : Heap} {T : TypeId}
def allocC (P : Program) (T : TypeId) : Option (Array Value) := (zer P T).bind cellsV
theorem ev_allocB (T : TypeId) : evOp fn P cl dq p (.alloc T) (some d) ⟨t, ds, H⟩ = stepB t ds H d T (allocC P T) := by
  unfold evOp
  simp only [aexec, allocC]
  cases (zer P T).bind cellsV <;> rfl
theorem resOf_cell (a : Nat) (T : TypeId) (t : Nat → Value) (ds : List Deferred) (H : Heap) : resOf P #[.cell a T] ⟨t, ds, H⟩ = ldA P H T (t a) := by
  simp only [resOf, resAll, res1, List.toList_toArray, Option.map_some]
  cases ldA P H T (t a) <;> rfl
theorem resOf_cell_tmp (a b : Nat) (T : TypeId) (t : Nat → Value) (ds : List Deferred) (H : Heap) : resOf P #[.cell a T, .tmp b] ⟨t, ds, H⟩ = (ldA P H T (t a)).bind fun v => some (.tuple #[v, t b]) := by
  simp only [resOf, resAll, res1, List.toList_toArray, Option.map_some]
  cases ldA P H T (t a) <;> rfl
theorem ia_arr {s N : Nat} {e : TypeId} {k : IntKind} (hu : P.underlying T = some (.array N e)) (hs : sz P e = some s) (A off n : Nat) (i : Int) (h : 0 ≤ i ∧ i < N) :
    idxA P T (.pointer (some ⟨A, off, some n⟩)) (.int k i) = some (.pointer (some ⟨A, off + i.toNat * s, some n⟩)) := by
  simp only [idxA, hu, hs, Option.bind_some]
  rw [if_pos h]
theorem putAll_drop : ∀ (vs : List Value) (l : List Value) (off : Nat), l.drop off = vs → putAll l.toArray off vs = l.toArray
  | [], l, off, _ => rfl
  | v :: vs, l, off, h => by
    have hlt : off < l.length := by
      rcases Nat.lt_or_ge off l.length with h1 | h1
      · exact h1
      · rw [List.drop_of_length_le h1] at h; cases h
    rw [List.drop_eq_getElem_cons hlt] at h
    injection h with h1 h2
    rw [putAll, List.setIfInBounds_toArray, ← h1, List.set_getElem_self]
    exact putAll_drop vs l (off + 1) h2
attribute [go_sem] ev_allocB resOf_cell resOf_cell_tmp
end Go.AM
namespace Go.AM
open Go
theorem putAll_over : ∀ (vs l : List Value) (off : Nat), l.length = off + vs.length → putAll l.toArray off vs = (l.take off ++ vs).toArray
  | [], l, off, h => by
    rw [putAll, List.append_nil, List.take_of_length_le (by simp at h; omega)]
  | v :: vs, l, off, h => by
    simp only [List.length_cons] at h
    rw [putAll, List.setIfInBounds_toArray, putAll_over vs (l.set off v) (off + 1) (by rw [List.length_set]; omega)]
    congr 1
    have e : (l.set off v).take (off + 1) = l.take off ++ [v] := by
      rw [List.take_set, List.take_succ_eq_append_getElem (by omega)]
      rw [List.set_append_right _ _ (by simp; omega)]
      simp
      have : off - min off l.length = 0 := by omega
      simp [this]
    rw [e, List.append_assoc]
    rfl
end Go.AM
namespace Go.AM
open Go
variable {P : Program} {T : TypeId} {c : Bool}
theorem sub_u8 {a b : Int} (h1 : 0 ≤ a - b) (h2 : a - b < 256) : binV P c .sub T (.int .u8 a) (.int .u8 b) = some (.int .u8 (a - b)) := by
  rw [binV_ints (v := .int .u8 (IntKind.u8.wrap (a - b))) (by simp [binOp, Op.intArith]; try rfl) rfl, wrap_u8 h1 h2]
end Go.AM
namespace Go.AM
open Go
variable {P : Program} {T : TypeId} {c : Bool}
theorem bool_neq (a b : Bool) (hu : P.underlying T = some .bool) : binV P c .neq T (.bool a) (.bool b) = some (.bool (!(a == b))) := by
  unfold binV
  rw [if_pos (by simp [ground, flat1, flat])]
  unfold binG
  rw [pureRun_bind]
  have hg : pureRun P (eqGuard .neq T (if c = true then .const .nilIface else .tmp 0) (.tmp 0) (.bool a) (.bool b)) = some () := by
    unfold eqGuard
    rfl
  rw [hg]
  have : pureRun P (Op.equalIn Op.maxDepth T (.bool a) (.bool b)) = some (a == b) := by
    show pureRun P (Op.equalIn (9999 + 1) T (.bool a) (.bool b)) = _
    unfold Op.equalIn
    rw [pureRun_bind, pureRun_underlying, hu]
    rfl
  simp only [Option.bind_some, binOp, pureRun_bind, Op.equal]
  rw [this]
  rfl
end Go.AM
namespace Go.AM
open Go
open Go.RowKit (Below)
variable {P : Program} {N0 : Nat} {W0 : World} {cl : FuncId → Nat} {X : Exts}
theorem ext_plain2 {f : FuncId} {g : Array Value → Option Value} (hT : Taken P f) (hg : ∀ args v, g args = some v → (∀ M ys, VRL M args.toList ys → ys = args.toList) ∧ ∀ w, Below N0 W0 w → N0 ≤ w.heap.size →
    Calls P f args w fun e w' => ∃ v', e = .returned v' ∧ VR noMp v v' ∧ Below w.heap.size w w') : ExtSound P N0 W0 f (exG g) := by
  refine ⟨hT, fun args prot H e H' h hp => ?_⟩
  unfold exG at h
  obtain ⟨v, hv, h⟩ := Option.map_eq_some_iff.1 h
  cases h
  obtain ⟨h1, h2⟩ := hg args v hv
  refine ⟨.refl _ _, fun M w args' hH hvl => ?_⟩
  have : args' = args := Array.ext' (h1 M _ hvl)
  subst this
  refine Calls.mono (h2 w hH.below hH.n0) ?_
  rintro e w' ⟨v', rfl, k1, k2⟩
  exact ⟨M, .refl _, hH.world k2, vr_mono (noMp_le M) k1, ⟨fun _ _ _ => rfl, fun B0 hB hM => ⟨k2.mono hB, hM⟩⟩⟩
def goodB (P : Program) (cl : FuncId → Nat) (ex : FuncId → Bool) : Bool := (List.range P.funcs.size).all fun f => ex f || Nat.beq (cl f) 0 || (match P.funcs[f]? with
  | some fn => match fn.body with
    | some c => decide (fn.name ≠ "runtime.NumGoroutine") && codeOk cl fn.ntmps c
    | none => true
  | none => true)
theorem body_of {ex : FuncId → Bool} (h : goodB P cl ex = true) (hx : ∀ f, X f = none → ex f = false) :
    ∀ f, X f = none → cl f ≠ 0 → ∀ fn c, P.funcs[f]? = some fn → fn.body = some c → fn.name ≠ "runtime.NumGoroutine" ∧ codeOk cl fn.ntmps c = true := by
  intro f hX hc fn c hf hb
  have hlt : f < P.funcs.size := (Array.getElem?_eq_some_iff.1 hf).1
  have := List.all_eq_true.1 h f (List.mem_range.2 hlt)
  have hcl : Nat.beq (cl f) 0 = false := by
    cases hq : Nat.beq (cl f) 0 with
    | false => rfl
    | true => exact absurd (Nat.eq_of_beq_eq_true hq) hc
  simp only [hx f hX, hcl, Bool.false_or, hf, hb, Bool.and_eq_true, decide_eq_true_eq] at this
  exact this
end Go.AM
attribute [go_sem] Go.AM.ev_min Go.AM.min_int Go.AM.finishq_ret Go.AM.g_sl

namespace Go.AM
open Go
variable {P : Program} {cl : FuncId → Nat} {fn : Fn'} {dq : Bool} {p d : Nat} {t : Nat → Value} {ds : List Deferred} {H H' : Heap} {T e : TypeId}
abbrev Q := Option (Nat × Nat × Nat)
def slv (q : Q) (len s : Nat) : Value := match q with
  | none => .slice none 0 0
  | some (A, off, n) => .slice (some ⟨A, off, some n⟩) len s
def shq (q : Q) (k : Nat) : Q := q.map fun x => (x.1, x.2.1 + k, x.2.2)
def ptq (q : Q) (o : Nat) : Value := match q with
  | none => .pointer none
  | some (A, off, n) => .pointer (some ⟨A, off + o, some n⟩)
def CAt (H : Heap) (q : Q) (cs : List Value) : Prop := match q with
  | none => cs = []
  | some (A, off, n) => rd H A off n cs.length = some cs.toArray
def okq (q : Q) (len : Nat) : Prop := q = none → len = 0
def inq (q : Q) (A : Nat) : Prop := ∃ off n, q = some (A, off, n)
theorem CAt.okq {q : Q} {cs : List Value} {len s : Nat} (h : CAt H q cs) (hl : cs.length = len * s) (hs : 0 < s) : okq q len := by
  rintro rfl
  rw [CAt] at h
  subst h
  rcases Nat.eq_zero_or_pos len with h | h
  · exact h
  · have := Nat.mul_pos h hs
    simp at hl
    omega
theorem rd_keep {A off n cnt : Nat} (h : H'[A]? = H[A]?) : rd H' A off n cnt = rd H A off n cnt := by unfold rd; rw [h]
theorem CAt.keep {q : Q} {cs : List Value} (h : CAt H q cs) (hk : ∀ A, inq q A → H'[A]? = H[A]?) : CAt H' q cs := by
  rcases q with _ | ⟨A, off, n⟩
  · exact h
  · simp only [CAt] at h ⊢
    rw [rd_keep (hk A ⟨_, _, rfl⟩)]
    exact h
theorem rd_iff {A off n cnt : Nat} {cs : Array Value} : rd H A off n cnt = some cs ↔ ∃ B, H[A]? = some B ∧ (B.k = 0 ∧ B.fl ≤ n ∧ off + cnt ≤ n ∧ n ≤ B.c.size) ∧ cs = B.c.extract off (off + cnt) := by
  unfold rd
  cases hA : H[A]? with
  | none => simp
  | some B =>
    simp only [Option.bind_some]
    by_cases h : B.k = 0 ∧ B.fl ≤ n ∧ off + cnt ≤ n ∧ n ≤ B.c.size
    · rw [if_pos h]
      constructor
      · intro h'; cases h'; exact ⟨B, rfl, h, rfl⟩
      · rintro ⟨B', hB, _, rfl⟩; cases hB; rfl
    · rw [if_neg h]
      constructor
      · intro h'; cases h'
      · rintro ⟨B', hB, h', _⟩; cases hB; exact absurd h' h
theorem CAt.shift {q : Q} {cs : List Value} (h : CAt H q cs) (k : Nat) (hk : k ≤ cs.length) : CAt H (shq q k) (cs.drop k) := by
  rcases q with _ | ⟨A, off, n⟩
  · simp only [CAt] at h; subst h; simp [shq, CAt]
  · simp only [CAt, shq, Option.map_some] at h ⊢
    obtain ⟨B, hB, h1, h2⟩ := rd_iff.1 h
    refine rd_iff.2 ⟨B, hB, ⟨h1.1, h1.2.1, by rw [List.length_drop]; omega, h1.2.2.2⟩, ?_⟩
    have h3 : cs = (B.c.extract off (off + cs.length)).toList := by rw [← h2]
    apply Array.ext'
    rw [List.toList_toArray]
    conv => lhs; rw [h3]
    simp only [Array.toList_extract, List.extract_eq_take_drop, List.drop_take, List.drop_drop, List.length_drop]
    congr 1
    omega
theorem CAt.take {q : Q} {cs : List Value} (h : CAt H q cs) (k : Nat) : CAt H q (cs.take k) := by
  rcases q with _ | ⟨A, off, n⟩
  · simp only [CAt] at h; subst h; simp [CAt]
  · simp only [CAt] at h ⊢
    obtain ⟨B, hB, h1, h2⟩ := rd_iff.1 h
    refine rd_iff.2 ⟨B, hB, ⟨h1.1, h1.2.1, by rw [List.length_take]; omega, h1.2.2.2⟩, ?_⟩
    have h3 : cs = (B.c.extract off (off + cs.length)).toList := by rw [← h2]
    apply Array.ext'
    rw [List.toList_toArray]
    conv => lhs; rw [h3]
    simp only [Array.toList_extract, List.extract_eq_take_drop, List.take_take, List.length_take]
    congr 1
    omega
theorem len_slv {s len : Nat} {q : Q} (hu : P.underlying T = some (.slice e)) (hq : okq q len) : lenW P T H (slv q len s) = some (.int .i64 len) := by
  rcases q with _ | ⟨A, off, n⟩
  · obtain rfl : len = 0 := hq rfl
    simp only [slv, lenW, lenOkT, hu, if_true, lenV]
    rfl
  · exact len_sl hu _ _
theorem slh_slv {s len : Nat} {q : Q} {hi : Int} (hu : P.underlying T = some (.slice e)) (hs : sz P e = some s) (hq : okq q len) (h : 0 ≤ hi ∧ hi ≤ len) :
    sliceV P T (slv q len s) none (some (.int .i64 hi)) none = some (slv q hi.toNat s) := by
  rcases q with _ | ⟨A, off, n⟩
  · obtain rfl : len = 0 := hq rfl
    simp only [slv, sliceV, hu, hs, Option.bind_some, Option.isNone_none, if_true, highV]
    rw [if_pos h]
    rfl
  · exact slh_sl hu hs _ _ _ _ _ h
theorem sll_slv {s len : Nat} {q : Q} {lo : Int} (hu : P.underlying T = some (.slice e)) (hs : sz P e = some s) (hq : okq q len) (h : 0 ≤ lo ∧ lo ≤ len) :
    sliceV P T (slv q len s) (some (.int .i64 lo)) none none = some (slv (shq q (lo.toNat * s)) (len - lo.toNat) s) := by
  rcases q with _ | ⟨A, off, n⟩
  · obtain rfl : len = 0 := hq rfl
    simp only [slv, shq, Option.map_none, sliceV, hu, hs, Option.bind_some, Option.isNone_none, if_true, highV, lowV]
    rw [if_pos h.1]
    simp only [Option.bind_some]
    rw [if_pos (by omega)]
  · simp only [slv, shq, Option.map_some, sliceV, hu, hs, Option.bind_some, highV, lowV]
    rw [if_pos h.1]
    simp only [Option.bind_some, Option.isSome_none, Bool.false_eq_true, false_implies, and_true]
    rw [if_pos (by omega)]
theorem ia_slv {s len : Nat} {q : Q} {i : Int} (hu : P.underlying T = some (.slice e)) (hs : sz P e = some s) (hq : okq q len) (h : 0 ≤ i ∧ i < len) :
    idxA P T (slv q len s) (.int .i64 i) = some (ptq q (i.toNat * s)) := by
  rcases q with _ | ⟨A, off, n⟩
  · obtain rfl : len = 0 := hq rfl
    omega
  · exact ia_sl hu hs _ _ _ _ _ h
theorem ld_ptq {q : Q} {cs : List Value} {o : Nat} {v : Value} (hs : sz P T = some 1) (ha : isAggD P T = false) (hu : (P.underlying T).isSome = true) (h : CAt H q cs) (ho : cs[o]? = some v) : ldA P H T (ptq q o) = some v := by
  rcases q with _ | ⟨A, off, n⟩
  · simp only [CAt] at h; subst h; simp at ho
  · simp only [CAt] at h
    obtain ⟨B, hB, h1, h2⟩ := rd_iff.1 h
    have hlt := (List.getElem?_eq_some_iff.1 ho).1
    show ldA P H T (.pointer (some ⟨A, off + o, some n⟩)) = _
    rw [ld_one hs ha hu, hB]
    unfold get1
    rw [Option.bind_some, if_pos ⟨h1.1, h1.2.1, by omega, h1.2.2.2⟩]
    have h3 : cs = (B.c.extract off (off + cs.length)).toList := by rw [← h2]
    rw [h3] at ho
    simp only [Array.toList_extract, List.extract_eq_take_drop, List.getElem?_take, List.getElem?_drop] at ho
    split at ho
    · rw [← Array.getElem?_toList]; exact ho
    · cases ho
theorem ld_ptqA {q : Q} {cs : List Value} {o s : Nat} (hs : sz P T = some s) (ha : isAggD P T = true) (h : CAt H q cs) (ho : o + s ≤ cs.length) (h0 : q ≠ none) : ldA P H T (ptq q o) = some (.agg ((cs.drop o).take s).toArray) := by
  rcases q with _ | ⟨A, off, n⟩
  · exact absurd rfl h0
  · have h' := (h.shift o (by omega)).take s
    simp only [shq, Option.map_some, CAt] at h'
    have e : ((cs.drop o).take s).length = s := by rw [List.length_take, List.length_drop]; omega
    rw [e] at h'
    show ldv P H T A (off + o) n = _
    unfold ldv
    rw [hs, Option.bind_some, h', Option.bind_some, if_pos ha]
theorem src_slv {q : Q} {cs : List Value} {len s : Nat} (h : CAt H q cs) (hl : cs.length = len * s) (hs : 0 < s) : srcOf H s (slv q len s) = some (cs.toArray, len) := by
  have hq := h.okq hl hs
  rcases q with _ | ⟨A, off, n⟩
  · obtain rfl : len = 0 := hq rfl
    simp only [CAt] at h; subst h
    rfl
  · simp only [CAt] at h
    simp only [slv, srcOf, if_true]
    rw [← hl, h]
    rfl
abbrev u8v (c : UInt8) : Value := .int .u8 c.toNat
abbrev u8s (l : List UInt8) : List Value := l.map u8v
theorem bytesOf_u8s (l : List UInt8) : bytesOf (u8s l).toArray = some ⟨l.toArray⟩ := by
  have key : ∀ (l : List UInt8) (s : List UInt8), (u8s l).foldlM (fun (s : ByteArray) c => match c with
      | .int .u8 n => some (s.push (UInt8.ofNat n.toNat))
      | _ => none) (⟨s.toArray⟩ : ByteArray) = some ⟨(s ++ l).toArray⟩ := by
    intro l
    induction l with
    | nil => intro s; simp [u8s]
    | cons c l ih =>
      intro s
      simp only [u8s, List.map_cons, List.foldlM_cons]
      have e : (ByteArray.mk s.toArray).push (UInt8.ofNat ((c.toNat : Int)).toNat) = ⟨(s ++ [c]).toArray⟩ := by
        rw [Int.toNat_natCast, UInt8.ofNat_toNat]
        simp [ByteArray.push]
      show (_ : Option ByteArray) >>= _ = _
      simp only [bind, Option.bind_some]
      have := ih (s ++ [c])
      rw [List.append_assoc] at this
      rw [← e] at this
      exact this
  unfold bytesOf
  rw [List.toList_toArray]
  exact key l []
theorem conv_slv {T' : TypeId} {q : Q} {l : List UInt8} {e : TypeId} (hu : P.underlying T = some (.slice e)) (he : P.underlying e = some (.int .u8)) (hd : P.underlying T' = some .string) (h : CAt H q (u8s l)) :
    convV P T T' (slv q l.length 1) H = some (str l, H) := by
  rcases q with _ | ⟨A, off, n⟩
  · simp only [CAt, u8s, List.map_eq_nil_iff] at h
    subst h
    unfold convV
    rw [hu, hd]
    simp only [slv, flat, if_true]
    unfold convert
    rw [pureRun_underlying' hu, pureRun_underlying' hd]
    simp only
    rw [pureRun_underlying' he]
    rfl
  · simp only [CAt, u8s, List.length_map] at h
    simp only [convV, hu, hd, slv, he, if_true, h, Option.bind_some]
    rw [bytesOf_u8s l]
    rfl
theorem conv_str {T' : TypeId} {l : List UInt8} {e : TypeId} (hs : P.underlying T = some .string) (hu : P.underlying T' = some (.slice e)) (he : P.underlying e = some (.int .u8)) :
    convV P T T' (str l) H = some (slv (some (H.length, 0, l.length)) l.length 1, H ++ [cel e (u8s l).toArray]) := by
  simp only [convV, hs, hu, he]
  congr 3
  · simp
def OwnS (p : Nat) (H : Heap) (q : Q) (cs : List Value) : Prop := match q with
  | none => cs = []
  | some (A, off, n) => off = 0 ∧ n = cs.length ∧ p ≤ A ∧ ∃ B, H[A]? = some B ∧ B.k = 0 ∧ B.fl ≤ n ∧ B.ro = false ∧ B.c = cs.toArray
theorem OwnS.cat {q : Q} {cs : List Value} (h : OwnS p H q cs) : CAt H q cs := by
  rcases q with _ | ⟨A, off, n⟩
  · exact h
  · obtain ⟨rfl, rfl, hp, B, hB, h1, h2, h3, h4⟩ := h
    exact rd_iff.2 ⟨B, hB, ⟨h1, h2, by omega, by rw [h4]; simp⟩, by rw [h4]; simp⟩
theorem OwnS.keep {q : Q} {cs : List Value} (h : OwnS p H q cs) (hk : ∀ A, inq q A → H'[A]? = H[A]?) : OwnS p H' q cs := by
  rcases q with _ | ⟨A, off, n⟩
  · exact h
  · obtain ⟨h1, h2, hp, B, hB, h3⟩ := h
    exact ⟨h1, h2, hp, B, (hk A ⟨_, _, rfl⟩).trans hB, h3⟩
theorem OwnS.lt {q : Q} {cs : List Value} (h : OwnS p H q cs) {A : Nat} (hA : inq q A) : p ≤ A ∧ A < H.length := by
  obtain ⟨off, n, rfl⟩ := hA
  obtain ⟨_, _, hp, B, hB, _⟩ := h
  exact ⟨hp, (List.getElem?_eq_some_iff.1 hB).1⟩
theorem app_own {T' st : TypeId} {q : Q} {cs xs : List Value} {len m s b : Nat} {x : Value} (hu : P.underlying st = some (.slice e)) (he : elemI P e = some (s, b)) (hs : 0 < s) (hT : appT P T' = true) (hp : p ≤ H.length)
    (h : OwnS p H q cs) (hl : cs.length = len * s) (hx : srcOf H s x = some (xs.toArray, m)) (hxl : xs.length = m * s) (hb : (len + m) * (b + 1) ≤ 2 ^ 47) :
    ∃ q' H', appW P p st T' (slv q len s) x H = some (slv q' (len + m) s, H') ∧ OwnS p H' q' (cs ++ xs) ∧ H.length ≤ H'.length ∧ (∀ C, C < H.length → ¬ inq q C → H'[C]? = H[C]?) ∧ (∀ C, inq q' C → inq q C ∨ H.length ≤ C) ∧ (∀ C, inq q C → inq q' C) := by
  unfold appW
  rw [if_pos hT]
  have hq := h.cat.okq hl hs
  rcases q with _ | ⟨A, off, n⟩
  · obtain rfl : len = 0 := hq rfl
    simp only [OwnS] at h
    subst h
    by_cases hm : m = 0
    · subst hm
      refine ⟨none, H, ?_, ?_, Nat.le_refl _, fun _ _ _ => rfl, fun C hC => .inl hC, fun C hC => hC⟩
      · simp only [appendV, hu, he, Option.bind_some, hx, slv, if_true]
      · have : xs = [] := List.length_eq_zero_iff.1 (by simpa using hxl)
        simp [OwnS, this]
    · refine ⟨some (H.length, 0, xs.length), H ++ [cel e xs.toArray], ?_, ?_, by simp, fun C hC _ => List.getElem?_append_left hC, fun C hC => ?_, fun C hC => ?_⟩
      · simp only [appendV, hu, he, Option.bind_some, hx, slv, hm, if_false, Nat.zero_add] at hb ⊢
        rw [if_pos hb]
        simp
      · exact ⟨rfl, by simp, hp, cel e xs.toArray, by simp, rfl, Nat.zero_le _, rfl, by simp [cel]⟩
      · obtain ⟨o, n, hC⟩ := hC; cases hC; exact .inr (Nat.le_refl _)
      · obtain ⟨o, n, hC⟩ := hC; cases hC
  · obtain ⟨rfl, rfl, hp, B, hB, h1, h2, h3, h4⟩ := h
    by_cases hm : m = 0
    · subst hm
      refine ⟨some (A, 0, cs.length), H, ?_, ?_, Nat.le_refl _, fun _ _ _ => rfl, fun C hC => .inl hC, fun C hC => hC⟩
      · simp only [appendV, hu, he, Option.bind_some, hx, slv, if_true, Nat.add_zero]
      · have : xs = [] := List.length_eq_zero_iff.1 (by simpa using hxl)
        subst this
        exact ⟨rfl, by simp, hp, B, hB, h1, h2, h3, by simp [h4]⟩
    · have hlt := (List.getElem?_eq_some_iff.1 hB).1
      refine ⟨some (A, 0, cs.length + xs.length), H.set A { B with c := B.c ++ xs.toArray }, ?_, ?_, by simp, fun C hC hn => ?_, fun C hC => ?_, fun C hC => ?_⟩
      · simp only [appendV, hu, he, Option.bind_some, hx, slv, if_true, hm, if_false, hB]
        rw [if_pos ⟨h1, hp, h3, h2, by rw [h4]; simp, hl.symm, hs, hb⟩]
        simp
      · exact ⟨rfl, by simp, hp, _, List.getElem?_set_self hlt, h1, Nat.le_trans h2 (by omega), h3, by simp [h4]⟩
      · rw [List.getElem?_set_ne]
        rintro rfl
        exact hn ⟨_, _, rfl⟩
      · obtain ⟨o, n, hC⟩ := hC; cases hC; exact .inl ⟨_, _, rfl⟩
      · obtain ⟨o, n, hC⟩ := hC; cases hC; exact ⟨_, _, rfl⟩
theorem src_str (l : List UInt8) : srcOf H 1 (str l) = some ((u8s l).toArray, l.length) := by
  simp only [srcOf, if_true]
  congr 2
  simp
def fillW (P : Program) (T : TypeId) (len : Nat) (ps : List (Nat × Value)) : Option (TypeId × Nat × Array Value) := fillC P T len ps.toArray
theorem ev_fillW (T : TypeId) (len : Nat) (ps : List (Nat × Operand)) : evOp fn P cl dq p (.buildSlice T len ps.toArray) (some d) ⟨t, ds, H⟩ =
    stepVH t ds d ((fillW P T len (ps.map fun x => (x.1, St.eval ⟨t, ds, H⟩ x.2))).bind fun r => some (.slice (some ⟨H.length, 0, some r.2.2.size⟩) len r.2.1, H ++ [cel r.1 r.2.2])) := by
  rw [ev_buildSlice]
  unfold fillW
  rw [List.map_toArray]
  cases fillC P T len (List.map (fun x => (x.fst, St.eval ⟨t, ds, H⟩ x.snd)) ps).toArray <;> rfl
theorem fill_one {s : Nat} {z v : Value} {zs : Array Value} {cs : List Value} (hu : P.underlying T = some (.slice e)) (hs : sz P e = some (s + 1)) (hz : zer P e = some z) (hc : cellsV z = some zs) (hzs : zs.size = s + 1) (hss : s + 1 ≤ 2 ^ 24) (hv : cellsV v = some cs.toArray) (hcs : cs.length = s + 1) (h1 : cs.all oneC = true) :
    fillW P T 1 [(0, v)] = some (e, s + 1, cs.toArray) := by
  unfold fillW fillC
  simp only [hu, hs, Option.bind_some, Nat.one_mul, hz, hc, List.all_toArray, List.all_cons, List.all_nil, hv, Option.isSome_some, Bool.and_self]
  rw [if_pos ⟨hss, trivial⟩]
  rw [if_neg (by omega)]
  simp only [Option.bind_some, hzs, true_or, if_true]
  rw [if_neg (by omega)]
  have hfill : Instr.fill (fun i => some (i * (s + 1), s + 1)) (zeros zs 1) [(0, v)] = some cs.toArray := by
    have hz1 : zeros zs 1 = zs := by unfold zeros; simp
    rw [hz1]
    rcases hagg : (match v with | .agg _ => true | _ => false) with _ | _
    · have hone : oneC v = true ∧ cs = [v] := by
        unfold cellsV at hv
        cases v <;> simp_all
      obtain ⟨h2, rfl⟩ := hone
      simp only [List.length_cons, List.length_nil] at hcs
      obtain rfl : s = 0 := by omega
      have := fillS_one 0 (fun i => some (i * 1, 1)) zs v [] ⟨h2, by omega⟩
      have hA := fill_cons (fun i => some (i * 1, 1)) zs 0 v []
      simp only [fillA] at this hA
      rw [hA, Nat.zero_mul, this]
      show some _ = _
      congr 1
      apply Array.ext'
      obtain ⟨zl⟩ := zs
      match zl, hzs with
      | [y], _ => rfl
    · obtain ⟨ws, rfl⟩ : ∃ ws, v = .agg ws := by cases v <;> simp_all
      have hw : ws = cs.toArray := by
        unfold cellsV at hv
        simp only at hv
        split at hv
        · exact Option.some.inj hv
        · cases hv
      subst hw
      have := fillS_agg 0 (s + 1) (fun i => some (i * (s + 1), s + 1)) zs cs.toArray [] ⟨by simpa using hcs, by omega⟩
      have hA := fill_cons (fun i => some (i * (s + 1), s + 1)) zs 0 (.agg cs.toArray) []
      simp only [fillA] at this hA
      rw [hA, Nat.zero_mul, this]
      show some _ = _
      congr 1
      obtain ⟨zl⟩ := zs
      rw [putAll_over _ _ _ (by simp at hzs ⊢; omega)]
      simp
  rw [hfill]
  simp only [Option.bind_some]
  rw [if_pos h1]
def ixs (k : Nat) : List Value → List (Nat × Value)
  | [] => []
  | v :: vs => (k, v) :: ixs (k + 1) vs
theorem fill_ixs : ∀ (vs : List Value) (k : Nat) (cs : Array Value), vs.all oneC = true → k + vs.length ≤ cs.size → Instr.fill (fun i => some (i * 1, 1)) cs (ixs k vs) = some (putAll cs k vs)
  | [], k, cs, _, _ => rfl
  | v :: vs, k, cs, h1, hl => by
    simp only [List.all_cons, Bool.and_eq_true] at h1
    simp only [List.length_cons] at hl
    have hA := fill_cons (fun i => some (i * 1, 1)) cs k v (ixs (k + 1) vs)
    have h2 := fillS_one k (fun i => some (i * 1, 1)) cs v (ixs (k + 1) vs) ⟨h1.1, by omega⟩
    simp only [fillA] at hA h2
    rw [ixs, hA, Nat.mul_one, h2]
    have := fill_ixs vs (k + 1) (cs.setIfInBounds k v) h1.2 (by rw [Array.size_setIfInBounds]; omega)
    rw [this, putAll]
theorem ixs_all : ∀ (vs : List Value) (k : Nat), vs.all oneC = true → (ixs k vs).all (fun p => (cellsV p.2).isSome) = true
  | [], _, _ => rfl
  | v :: vs, k, h => by
    simp only [List.all_cons, Bool.and_eq_true] at h
    rw [ixs, List.all_cons, ixs_all vs (k + 1) h.2, cells_one h.1]
    rfl
theorem fill_many {z : Value} {vs : List Value} (hu : P.underlying T = some (.slice e)) (hs : sz P e = some 1) (hz : zer P e = some z) (hc : oneC z = true) (h1 : vs.all oneC = true) (hl : vs.length ≤ 2 ^ 24) (h0 : vs ≠ []) :
    fillW P T vs.length (ixs 0 vs) = some (e, 1, vs.toArray) := by
  have hn : vs.length ≠ 0 := fun h => h0 (List.length_eq_zero_iff.1 h)
  unfold fillW fillC
  simp only [hu, hs, Option.bind_some, Nat.mul_one, hz, cells_one hc]
  rw [if_pos ⟨hl, by simpa using ixs_all vs 0 h1⟩, if_neg hn]
  simp only [Option.bind_some, List.size_toArray, List.length_cons, List.length_nil, Nat.zero_add, true_or, if_true]
  rw [if_neg hn]
  have e1 : zeros #[z] vs.length = (List.replicate vs.length z).toArray := by
    unfold zeros
    congr 1
    generalize vs.length = n
    induction n with
    | zero => rfl
    | succ n ih => rw [List.replicate_succ, List.flatten_cons, ih, List.replicate_succ]; rfl
  have e2 : Instr.fill (fun i => some (i * 1, 1)) (zeros #[z] vs.length) (ixs 0 vs) = some vs.toArray := by
    rw [fill_ixs _ _ _ h1 (by rw [e1]; simp), e1, putAll_over _ _ _ (by simp)]
    simp
  simp only [Nat.mul_one] at e2 ⊢
  rw [e2]
  simp only [Option.bind_some]
  rw [if_pos h1]
theorem fill_2 {z a b : Value} (hu : P.underlying T = some (.slice e)) (hs : sz P e = some 1) (hz : zer P e = some z) (hc : oneC z = true) (h1 : oneC a = true ∧ oneC b = true) :
    fillW P T 2 [(0, a), (1, b)] = some (e, 1, #[a, b]) := fill_many (vs := [a, b]) hu hs hz hc (by simp [h1]) (by simp) (by simp)
theorem fill_3 {z a b c : Value} (hu : P.underlying T = some (.slice e)) (hs : sz P e = some 1) (hz : zer P e = some z) (hc : oneC z = true) (h1 : oneC a = true ∧ oneC b = true ∧ oneC c = true) :
    fillW P T 3 [(0, a), (1, b), (2, c)] = some (e, 1, #[a, b, c]) := fill_many (vs := [a, b, c]) hu hs hz hc (by simp [h1]) (by simp) (by simp)
theorem fill_4 {z a b c d : Value} (hu : P.underlying T = some (.slice e)) (hs : sz P e = some 1) (hz : zer P e = some z) (hc : oneC z = true) (h1 : oneC a = true ∧ oneC b = true ∧ oneC c = true ∧ oneC d = true) :
    fillW P T 4 [(0, a), (1, b), (2, c), (3, d)] = some (e, 1, #[a, b, c, d]) := fill_many (vs := [a, b, c, d]) hu hs hz hc (by simp [h1]) (by simp) (by simp)
theorem fill_1 {z a : Value} (hu : P.underlying T = some (.slice e)) (hs : sz P e = some 1) (hz : zer P e = some z) (hc : oneC z = true) (h1 : oneC a = true) :
    fillW P T 1 [(0, a)] = some (e, 1, #[a]) := fill_many (vs := [a]) hu hs hz hc (by simp [h1]) (by simp) (by simp)
def XPre (X : Exts) : Prop := ∀ f g, X f = some g → ∀ args prot H e H', g args prot H = some (e, H') → prot ≤ H.length → Pr prot H H'
theorem exG_pre (g : Array Value → Option Value) : ∀ args prot H e H', exG g args prot H = some (e, H') → prot ≤ H.length → Pr prot H H' := by
  intro args prot H e H' h hp
  unfold exG at h
  obtain ⟨v, hv, h⟩ := Option.map_eq_some_iff.1 h
  cases h
  exact .refl _ _
variable {rec : Ru}
theorem bodyFn_pre2 {X : Exts} (hX : XPre X) (hrec : RuPre rec) : FnPre cl (bodyFn P cl X rec) := by
  intro f args prot H e H' h hp
  unfold bodyFn at h
  have hp' : (if cl f = 1 then H.length else prot) ≤ H.length := by split <;> omega
  split at h
  · rename_i g hg
    have := (hX f g hg) _ _ _ _ _ h hp'
    exact this
  · split at h
    · cases h
    · obtain ⟨fn, hf, h⟩ := Option.bind_eq_some_iff.1 h
      obtain ⟨c, hb, h⟩ := Option.bind_eq_some_iff.1 h
      split at h
      · split at h
        · obtain ⟨⟨e1, H1⟩, h1, h⟩ := Option.bind_eq_some_iff.1 h
          simp only at h
          split at h
          · split at h <;> cases h
            exact Pr.refl _ _
          · cases h
        · cases h
      split at h
      · have hp5 : prot ≤ H.length := hp
        unfold finishD at h
        obtain ⟨⟨e1, s1⟩, h1, h⟩ := Option.bind_eq_some_iff.1 h
        have k1 := hrec _ _ _ _ _ h1 hp5
        have hd := dfn_pre (X := X) (P := P) (cl := cl) hrec
        have k2 : Pr prot s1.H H' := by
          simp only at h k1
          have hl := k1.1
          split at h
          · exact leave_pre' hd h (by omega)
          · exact leave_pre' hd h (by omega)
          · exact leave_pre' hd h (by omega)
          · cases h
        have h5 : ¬ cl f = 1 := by omega
        rw [if_neg h5]
        exact k1.trans k2
      obtain ⟨e1, s1, h1, _, h2⟩ := finish_some h
      have := hrec _ _ _ _ _ h1 hp'
      rcases h2 with ⟨_, v, _, _, h3 | ⟨_, _, h3⟩⟩ | ⟨ch, _, _, h3⟩
      · rw [h3]; exact this
      · rw [h3]; exact Pr.refl _ _
      · rw [h3]; exact this
theorem pre_all {X : Exts} (hX : XPre X) : ∀ k, RuPre (evs P cl X k).1 ∧ FnPre cl (evs P cl X k).2
  | 0 => ⟨fun _ _ _ _ _ h => (by cases h), fun _ _ _ _ _ _ h => (by cases h)⟩
  | k + 1 => by
    obtain ⟨h2, h4⟩ := pre_all hX k
    exact ⟨evC_pre h4 h2, bodyFn_pre2 hX h2⟩
theorem limF_pre {X : Exts} (hX : XPre X) {f : FuncId} {a : Array Value} {p : Nat} {H H' : Heap} {e : Ending} (h : limF P cl X f a p H = some (e, H')) (hp : p ≤ H.length) : Pr (if cl f = 1 then H.length else p) H H' := by
  obtain ⟨k, hk⟩ := limF_iff.1 h
  exact (pre_all hX k).2 _ _ _ _ _ _ hk hp
end Go.AM
attribute [go_sem 5000] Go.AM.ev_fillW
attribute [go_sem] Go.AM.nilV_some Go.AM.ev_allocB Go.AM.stepB_some

namespace Go.AM
open Go
variable {P : Program} {cl : FuncId → Nat} {X : Exts} {fn : Fn'} {dq : Bool} {p d : Nat} {t : Nat → Value} {ds : List Deferred} {H : Heap}
def deferT (v : Value) (args : Array Value) (t : Nat → Value) (ds : List Deferred) (H : Heap) : Option (Exit × St) := match v with
  | .func (.func g) first captured => some (.normal, ⟨t, { target := .fn (.func g) captured, args := first ++ args } :: ds, H⟩)
  | _ => none
theorem ev_defer (x : Nat) (args : Array Operand) (tys : Array TypeId) : evOp fn P cl dq p (.defer ⟨.value (.tmp x), args, tys⟩) none ⟨t, ds, H⟩ = deferT (t x) (args.map (St.eval ⟨t, ds, H⟩)) t ds H := by
  unfold evOp deferT
  simp only [aexec, eval_tmp]
  generalize t x = v
  cases v with
  | func f a b => cases f <;> rfl
  | _ => rfl
theorem deferT_f (g : FuncId) (a b xs : List Value) : deferT (.func (.func g) a.toArray b.toArray) xs.toArray t ds H = some (.normal, ⟨t, { target := .fn (.func g) b.toArray, args := (a ++ xs).toArray } :: ds, H⟩) := by
  simp [deferT]
def noRec : Code → Bool
  | .seq a b => noRec a && noRec b
  | .cond _ a b => noRec a && noRec b
  | .region _ ops _ => !ops.any (fun o => isRec o.op)
  | _ => true
theorem evS_plain {prot : Nat} : ∀ (c : Code) {u : Md} {s : St}, noRec c = true → evS P cl (limR P cl X) prot c u s = (limR P cl X c prot s).map fun r => (r.1, u, r.2) := by
  intro c
  induction c with
  | seq a b iha ihb =>
    intro u s h
    simp only [noRec, Bool.and_eq_true] at h
    rw [evS, iha h.1, E_seq]
    cases hq : limR P cl X a prot s with
    | none => rfl
    | some r =>
      obtain ⟨e, s'⟩ := r
      cases e with
      | normal =>
        show evS P cl (limR P cl X) prot b u s' = _
        rw [ihb h.2]
        rfl
      | _ => rfl
  | cond c a b iha ihb =>
    intro u s h
    simp only [noRec, Bool.and_eq_true] at h
    rw [evS, E_cond]
    cases s.eval c with
    | bool t =>
      cases t with
      | true => simp only [if_true]; exact iha h.1
      | false => simp only [Bool.false_eq_true, if_false]; exact ihb h.2
    | _ => rfl
  | region i ops draw =>
    intro u s h
    cases draw with
    | true => rfl
    | false =>
      simp only [noRec, Bool.not_eq_true'] at h
      rw [evS, if_neg (by rw [h]; simp)]
  | _ => intro u s h; rfl
def finishS (P : Program) (rs : Array ResultVar) (u : Md) (x : Option (Exit × St)) : Option (Ending × Md × Heap) := x.bind fun r => match r.1, r.2.ds with
    | .normal, [] | .ret, [] => (resOf P rs r.2).map fun v => (.returned v, u, r.2.H)
    | .panic ch, [] => some (.panicked ch, u, r.2.H)
    | _, _ => none
theorem finishS_normal (rs : Array ResultVar) (u : Md) : finishS P rs u (some (.normal, ⟨t, [], H⟩)) = (resOf P rs ⟨t, [], H⟩).bind fun v => some (.returned v, u, H) := by
  show (resOf P rs ⟨t, [], H⟩).map _ = _
  cases resOf P rs ⟨t, [], H⟩ <;> rfl
theorem finishS_ret (rs : Array ResultVar) (u : Md) : finishS P rs u (some (.ret, ⟨t, [], H⟩)) = (resOf P rs ⟨t, [], H⟩).bind fun v => some (.returned v, u, H) := by
  show (resOf P rs ⟨t, [], H⟩).map _ = _
  cases resOf P rs ⟨t, [], H⟩ <;> rfl
theorem dfnA_rec {f : FuncId} {fn : Func} {i d1 d2 : Nat} {ops : Array Oper} {b : Code} {args : Array Value} {u : Md} (hX : X f = none) (hc : cl f ≠ 0) (hf : P.funcs[f]? = some fn) (hb : fn.body = some (.seq (.region i ops false) b)) (hr : ops.any (fun o => isRec o.op) = true)
    (h0 : ∀ s : St, evOpsS P cl p ops ops.toList u s = some (.normal, (recA u).2, { s with t := upd (upd s.t d1 (recA u).1) d2 (recA u).1 })) (hn : noRec b = true) :
    dfnA P cl X (limR P cl X) f args u p H = finishS P fn.results (recA u).2 (limR P cl X b p ⟨upd (upd (fun i => args.getD i undef) d1 (recA u).1) d2 (recA u).1, [], H⟩) := by
  unfold dfnA
  rw [hX]
  simp only [if_neg hc, hf, hb, Option.bind_some]
  rw [evS]
  rw [evS, if_pos hr, h0]
  simp only [Option.bind_some]
  rw [evS_plain _ hn]
  generalize limR P cl X b p _ = x
  cases x with
  | none => rfl
  | some r =>
    obtain ⟨e, t', ds', H'⟩ := r
    simp only [Option.map_some, Option.bind_some, finishS]
    cases e <;> cases ds' <;> rfl
theorem finishD_ret {dfn : FuncId → Array Value → Md → Nat → Heap → Option (Ending × Md × Heap)} (rs : Array ResultVar) : finishD dfn P rs p (some (.ret, ⟨t, ds, H⟩)) = leaveA dfn P rs p t ds none H := (rfl)
theorem finishD_panic {dfn : FuncId → Array Value → Md → Nat → Heap → Option (Ending × Md × Heap)} (rs : Array ResultVar) (ch : List PanicEntry) : finishD dfn P rs p (some (.panic ch, ⟨t, ds, H⟩)) = leaveA dfn P rs p t ds (some ch) H := (rfl)
theorem leaveA_ok {dfn : FuncId → Array Value → Md → Nat → Heap → Option (Ending × Md × Heap)} {rs : Array ResultVar} {f : FuncId} {cap args : Array Value} {u u' : Md} {v : Value} {H' : Heap} (h : dfn f (args ++ cap) u p H = some (.returned v, u', H')) :
    leaveA dfn P rs p t ({ target := .fn (.func f) cap, args := args } :: ds) u H = leaveA dfn P rs p t ds (settleA u') H' := by
  rw [leaveA]
  simp only [h, Option.bind_some]
theorem leaveA_nil {dfn : FuncId → Array Value → Md → Nat → Heap → Option (Ending × Md × Heap)} {rs : Array ResultVar} : leaveA dfn P rs p t [] none H = (resOf P rs ⟨t, [], H⟩).map fun v => (.returned v, H) := (rfl)
theorem resOf_cells (a b : Nat) (T T' : TypeId) (t : Nat → Value) (ds : List Deferred) (H : Heap) : resOf P #[.cell a T, .cell b T'] ⟨t, ds, H⟩ = (ldA P H T (t a)).bind fun v => (ldA P H T' (t b)).bind fun w => some (.tuple #[v, w]) := by
  simp only [resOf, resAll, res1, List.toList_toArray, Option.map_some]
  cases ldA P H T (t a) <;> cases ldA P H T' (t b) <;> rfl
theorem resOf_none (t : Nat → Value) (ds : List Deferred) (H : Heap) : resOf P #[] ⟨t, ds, H⟩ = some (.tuple #[]) := (rfl)
def asrtG (P : Program) (x : Value) (T : TypeId) (ok : Bool) : Option Value := asrtV P x T ok
theorem asrt_yes {k : TypeId} {v : Value} {td : TypeDesc} (hu : P.underlying k = some td) (hn : ∀ w, td ≠ .interface w) : asrtV P (.iface k v) k true = some (.tuple #[v, .bool true]) := by
  unfold asrtV
  rw [hu]
  cases td <;> first | exact absurd rfl (hn _) | simp [okV]
end Go.AM
attribute [go_sem] Go.AM.ev_defer Go.AM.deferT_f Go.AM.finishS_normal Go.AM.finishS_ret Go.AM.finishD_ret Go.AM.finishD_panic Go.AM.leaveA_nil Go.AM.resOf_cells Go.AM.resOf_none

namespace Go.AM
open Go
open Go.RowKit (Below)
variable {P : Program} {N0 : Nat} {W0 : World} {cl : FuncId → Nat} {X : Exts} {M : Mp} {H : Heap} {w : World}
def exH (g : Heap → Array Value → Option Value) : Array Value → Nat → Heap → Option (Ending × Heap) := fun args _ H => (g H args).map fun v => (.returned v, H)
theorem exH_some {g : Heap → Array Value → Option Value} {a : Array Value} {v : Value} (p : Nat) (H : Heap) (h : g H a = some v) : exH g a p H = some (.returned v, H) := by unfold exH; rw [h]; rfl
theorem ext_reads {f : FuncId} {g : Heap → Array Value → Option Value} (hT : Taken P f) (hg : ∀ H args v, g H args = some v → ground v = true ∧ ∀ M w args', HR N0 W0 M H w → VRL M args.toList args'.toList →
    Calls P f args' w fun e w' => e = .returned v ∧ Below w.heap.size w w') : ExtSound P N0 W0 f (exH g) := by
  refine ⟨hT, fun args prot H e H' h hp => ?_⟩
  unfold exH at h
  obtain ⟨v, hv, h⟩ := Option.map_eq_some_iff.1 h
  cases h
  obtain ⟨h1, h2⟩ := hg H args v hv
  refine ⟨.refl _ _, fun M w args' hH hvl => ?_⟩
  refine Calls.mono (h2 M w args' hH hvl) ?_
  rintro e w' ⟨rfl, k2⟩
  exact ⟨M, .refl _, hH.world k2, (vr_ground h1).2 rfl, ⟨fun _ _ _ => rfl, fun B0 hB hM => ⟨k2.mono hB, hM⟩⟩⟩
theorem rd_world (h : HR N0 W0 M H w) {A off n cnt b base ext : Nat} {cs : Array Value} (hr : rd H A off n cnt = some cs) (hm : M A n = some (b, base, ext)) :
    b < w.heap.size ∧ ∀ i, i < cnt → ∃ x y, cs[i]? = some x ∧ w.cell? ⟨b, base + off + i, none⟩ = some y ∧ VR M x y := by
  obtain ⟨B, hB, ⟨k1, k2, k3, k4⟩, rfl⟩ := rd_iff.1 hr
  obtain ⟨B', hB', he⟩ := h.ent _ _ _ _ _ hm
  obtain rfl : B = B' := Option.some.inj (hB.symm.trans hB')
  refine ⟨he.lt, fun i hi => ?_⟩
  obtain ⟨h1, h2, h3, cs, el, fz, h4, h5, h6, h7⟩ := he.c k1
  have hx : B.c[off + i]? = some (B.c[off + i]'(by omega)) := Array.getElem?_eq_getElem (by omega)
  obtain ⟨y, hy, hv⟩ := h7 k2 (off + i) _ (by omega) hx
  refine ⟨_, y, ?_, ?_, hv⟩
  · rw [Array.getElem?_extract, if_pos (by omega), hx]
  · rw [Nat.add_assoc]
    simp only [World.cell?, h4, Option.isSome_none, Bool.false_eq_true, if_false]
    exact hy
theorem slv_world (h : HR N0 W0 M H w) {q : Q} {n s : Nat} {cs : List Value} {v' : Value} (hc : CAt H q cs) (hl : cs.length = n * s) (hs : 0 < s) (hv : VR M (slv q n s) v') :
    (v' = .slice none 0 0 ∧ n = 0) ∨ ∃ a cap, v' = .slice (some a) n cap ∧ n ≤ cap ∧ (n ≠ 0 → a.block < w.heap.size ∧ a.spot = none) ∧ ∀ i, i < n * s → ∃ x y, cs[i]? = some x ∧ w.cell? (a.add i) = some y ∧ VR M x y := by
  have hq := hc.okq hl hs
  rcases q with _ | ⟨A, off, k⟩
  · left
    obtain rfl : n = 0 := hq rfl
    have : v' = Value.slice none 0 0 := by simpa [slv, VR, flat] using hv
    exact ⟨this, rfl⟩
  · right
    simp only [slv, VR] at hv
    obtain ⟨b, base, ext, o', cap, hm, rfl, hle, ho⟩ := hv
    refine ⟨o', cap, rfl, hle, ?_⟩
    simp only [CAt] at hc
    obtain ⟨k1, k2⟩ := rd_world h hc hm
    rcases ho with ⟨rfl, _⟩ | rfl
    · refine ⟨fun _ => ⟨k1, rfl⟩, fun i hi => ?_⟩
      obtain ⟨x, y, e1, e2, e3⟩ := k2 i (by omega)
      exact ⟨x, y, by simpa using e1, by rw [add_none]; exact e2, e3⟩
    · obtain rfl : n = 0 := by omega
      exact ⟨fun h => absurd rfl h, fun i hi => by omega⟩
noncomputable def gSpec (R : Heap → Array Value → Value → Prop) : Heap → Array Value → Option Value := fun H args => by
  classical exact if h : ∃ v, R H args v then some h.choose else none
theorem gSpec_rel {R : Heap → Array Value → Value → Prop} {args : Array Value} {v : Value} (h : gSpec R H args = some v) : R H args v := by
  unfold gSpec at h
  split at h
  · rename_i hh
    rw [← Option.some.inj h]
    exact hh.choose_spec
  · cases h
theorem gSpec_some {R : Heap → Array Value → Value → Prop} {args : Array Value} {v : Value} (h : R H args v) (hu : ∀ v', R H args v' → v' = v) : gSpec R H args = some v := by
  unfold gSpec
  rw [dif_pos ⟨v, h⟩]
  exact congrArg some (hu _ (Exists.choose_spec ⟨v, h⟩))
theorem slv_inj {q q' : Q} {n n' s : Nat} {cs cs' : List Value} (h : slv q n s = slv q' n' s) (hc : CAt H q cs) (hc' : CAt H q' cs') (hl : cs.length = n * s) (hl' : cs'.length = n' * s) : cs = cs' := by
  rcases q with _ | ⟨A, off, k⟩ <;> rcases q' with _ | ⟨A', off', k'⟩
  · simp only [CAt] at hc hc'
    rw [hc, hc']
  · simp [slv] at h
  · simp [slv] at h
  · simp only [slv, Value.slice.injEq, Option.some.injEq, Addr.mk.injEq] at h
    obtain ⟨⟨rfl, rfl, rfl⟩, rfl, _⟩ := h
    simp only [CAt] at hc hc'
    rw [hl] at hc
    rw [hl', hc] at hc'
    have := Option.some.inj hc'
    simpa using this
end Go.AM

namespace Go.AM
open Go
variable {P : Program} {cl : FuncId → Nat} {X : Exts}
theorem loop_up {L : Code} {p : Nat} (n : Nat) (I : Nat → (Nat → Value) → Heap → Prop) (Q : Exit → (Nat → Value) → Heap → Prop)
    (step : ∀ i t H, i < n → I i t H → (∃ t' H', limR P cl X L p ⟨t, [], H⟩ = limR P cl X L p ⟨t', [], H'⟩ ∧ I (i + 1) t' H') ∨ ∃ e t' H', limR P cl X L p ⟨t, [], H⟩ = some (e, ⟨t', [], H'⟩) ∧ Q e t' H')
    (last : ∀ t H, I n t H → ∃ e t' H', limR P cl X L p ⟨t, [], H⟩ = some (e, ⟨t', [], H'⟩) ∧ Q e t' H') {t : Nat → Value} {H : Heap} (h : I 0 t H) :
    ∃ e t' H', limR P cl X L p ⟨t, [], H⟩ = some (e, ⟨t', [], H'⟩) ∧ Q e t' H' := by
  have key : ∀ (k i : Nat) (t : Nat → Value) (H : Heap), i + k = n → I i t H → ∃ e t' H', limR P cl X L p ⟨t, [], H⟩ = some (e, ⟨t', [], H'⟩) ∧ Q e t' H' := by
    intro k
    induction k with
    | zero =>
      intro i t H hi h
      obtain rfl : i = n := by omega
      exact last t H h
    | succ k ih =>
      intro i t H hi h
      rcases step i t H (by omega) h with ⟨t', H', e, h'⟩ | h'
      · rw [e]
        exact ih (i + 1) t' H' (by omega) h'
      · exact h'
  exact key n 0 t H (by omega) h
theorem loop_down {L : Code} {p : Nat} (I : Nat → (Nat → Value) → Heap → Prop) (Q : Exit → (Nat → Value) → Heap → Prop)
    (step : ∀ k t H, I k t H → (∃ k' t' H', k' < k ∧ limR P cl X L p ⟨t, [], H⟩ = limR P cl X L p ⟨t', [], H'⟩ ∧ I k' t' H') ∨ ∃ e t' H', limR P cl X L p ⟨t, [], H⟩ = some (e, ⟨t', [], H'⟩) ∧ Q e t' H')
    {k : Nat} {t : Nat → Value} {H : Heap} (h : I k t H) :
    ∃ e t' H', limR P cl X L p ⟨t, [], H⟩ = some (e, ⟨t', [], H'⟩) ∧ Q e t' H' := by
  induction k using Nat.strongRecOn generalizing t H with
  | _ k ih =>
    rcases step k t H h with ⟨k', t', H', hk, e, h'⟩ | h'
    · rw [e]
      exact ih k' hk h'
    · exact h'
theorem app_new {p : Nat} {H : Heap} {q : Q} {T T' st e : TypeId} {cs xs : List Value} {len s b : Nat} (hu : P.underlying st = some (.slice e)) (he : elemI P e = some (s, b)) (hs : 0 < s) (hT : appT P T' = true) (hp : p ≤ H.length)
    (h : OwnS p H q cs) (hl : cs.length = len * s) (hxl : xs.length = s) (hb : (len + 1) * (b + 1) ≤ 2 ^ 47) :
    ∃ q' H', appW P p st T' (slv q len s) (.slice (some ⟨H.length, 0, some s⟩) 1 s) (H ++ [⟨0, T, xs.toArray, 0, false, []⟩]) = some (slv q' (len + 1) s, H') ∧ OwnS p H' q' (cs ++ xs) ∧ H.length ≤ H'.length ∧ (∀ C, C < H.length → ¬ inq q C → H'[C]? = H[C]?) ∧ (∀ C, inq q' C → inq q C ∨ H.length ≤ C) := by
  have hO2 : OwnS p (H ++ [⟨0, T, xs.toArray, 0, false, []⟩]) q cs := h.keep fun B hB => List.getElem?_append_left (h.lt hB).2
  have hcat : CAt (H ++ [⟨0, T, xs.toArray, 0, false, []⟩]) (some (H.length, 0, s)) xs := by
    subst hxl
    simp only [CAt]
    exact rd_iff.2 ⟨_, by simp; rfl, ⟨rfl, Nat.zero_le _, by omega, by simp⟩, by simp⟩
  have hsrc : srcOf (H ++ [⟨0, T, xs.toArray, 0, false, []⟩]) s (.slice (some ⟨H.length, 0, some s⟩) 1 s) = some (xs.toArray, 1) := src_slv (s := s) (len := 1) hcat (by rw [hxl, Nat.one_mul]) hs
  obtain ⟨q', H', g1, g2, g3, g4, g5, _⟩ := app_own (P := P) (T' := T') (st := st) (q := q) (len := len) (m := 1) hu he hs hT (by simp; omega) hO2 hl hsrc (by rw [hxl, Nat.one_mul]) hb
  simp only [List.length_append, List.length_cons, List.length_nil] at g3 g4 g5
  refine ⟨q', H', g1, g2, by omega, fun C h1 h2 => ?_, fun C hC => ?_⟩
  · rw [g4 C (by omega) h2, List.getElem?_append_left h1]
  · rcases g5 C hC with h | h
    · exact .inl h
    · exact .inr (by omega)
theorem drop_cons {α : Type} {l : List α} {i : Nat} (h : i < l.length) : l.drop i = l[i] :: l.drop (i + 1) := List.drop_eq_getElem_cons h
end Go.AM

namespace Go.AM
open Go
variable {P : Program} {T kt et : TypeId} {H : Heap}
theorem ask_keys {κ : Type} [DecidableEq κ] {V : κ → Value} (heq : ∀ a b, pureRun P (Op.equal kt (V a) (V b)) = some (decide (a = b))) (one : Value) (k : κ) : ∀ (ks : List κ) (i : Nat), ∃ j, pureRun P (Instr.findAsking kt (V k) (entries (ks.map fun x => (V x, one))) i) = some (if k ∈ ks then some (j, one) else none)
  | [], i => ⟨0, rfl⟩
  | x :: ks, i => by
    obtain ⟨j, hj⟩ := ask_keys heq one k ks (i + 1)
    by_cases h : k = x
    · refine ⟨i, ?_⟩
      simp only [entries, List.map_cons, Instr.findAsking]
      rw [pureRun_bind, heq, decide_eq_true h, if_pos (by simp [h])]
      rfl
    · refine ⟨j, ?_⟩
      simp only [entries, List.map_cons, Instr.findAsking]
      rw [pureRun_bind, heq, decide_eq_false h]
      simp only [Option.bind_some, Bool.false_eq_true, if_false]
      have e : (k ∈ x :: ks) = (k ∈ ks) := by simp [h]
      simp only [e]
      exact hj
theorem find_keys {κ : Type} [DecidableEq κ] {V : κ → Value} {u : TypeDesc} (hu : P.underlying kt = some u) (hnow : ∀ a b, Instr.sameNow u (V a) (V b) = none) (heq : ∀ a b, pureRun P (Op.equal kt (V a) (V b)) = some (decide (a = b))) (one : Value) (k : κ) (ks : List κ) :
    ∃ j, pureRun P (Instr.findKey kt (V k) (entries (ks.map fun x => (V x, one)))) = some (if k ∈ ks then some (j, one) else none) := by
  unfold Instr.findKey
  rw [pureRun_bind, pureRun_underlying, hu]
  simp only [Option.bind_some]
  cases ks with
  | nil => exact ⟨0, rfl⟩
  | cons x ks =>
    obtain ⟨j, hj⟩ := ask_keys heq one k (x :: ks) 0
    refine ⟨j, ?_⟩
    have : Instr.findNow u (V k) (entries ((x :: ks).map fun x => (V x, one))) 0 = none := by
      simp only [entries, List.map_cons, Instr.findNow, hnow]
    rw [this]
    exact hj
structure Keys {κ : Type} [DecidableEq κ] (P : Program) (T kt et : TypeId) (V : κ → Value) (z : Value) : Prop where
  t : P.underlying T = some (.map kt et)
  u : ∃ u, P.underlying kt = some u ∧ ∀ a b, Instr.sameNow u (V a) (V b) = none
  eq : ∀ a b, pureRun P (Op.equal kt (V a) (V b)) = some (decide (a = b))
  chk : ∀ b k, pureRun P (Instr.checkKey b 10000 kt (V k)) = some ()
  fl : ∀ k, flat1 (V k) = true
  z : zer P et = some z
theorem look_keys {κ : Type} [DecidableEq κ] {V : κ → Value} {z : Value} (K : Keys P T kt et V z) {r t fl : Nat} {c : Array Value} {ro : Bool} {ks : List κ} {one : Value} (k : κ) (hH : H[r]? = some ⟨1, t, c, fl, ro, ks.map fun x => (V x, one)⟩) :
    lookV P T (.map (some r)) (V k) false H = some (if k ∈ ks then one else z) := by
  obtain ⟨u, hu, hnow⟩ := K.u
  obtain ⟨j, hj⟩ := find_keys hu hnow K.eq one k ks
  simp only [lookV, K.t, hH, Option.bind_some, if_true, K.fl]
  rw [pureRun_bind, K.chk]
  simp only [Option.bind_some, hj]
  by_cases h : k ∈ ks
  · simp [h]
  · simp [h, K.z]
theorem up_keys {κ : Type} [DecidableEq κ] {V : κ → Value} {z : Value} (K : Keys P T kt et V z) {r t fl p : Nat} {c : Array Value} {ks : List κ} {one : Value} (k : κ) (hk : k ∉ ks) (hp : p ≤ r) (hH : H[r]? = some ⟨1, t, c, fl, false, ks.map fun x => (V x, one)⟩) :
    mapUp P p T (.map (some r)) (V k) one H = some (H.set r ⟨1, t, c, fl, false, (ks ++ [k]).map fun x => (V x, one)⟩) := by
  obtain ⟨u, hu, hnow⟩ := K.u
  obtain ⟨j, hj⟩ := find_keys hu hnow K.eq one k ks
  simp only [mapUp, K.t, hH, Option.bind_some, K.fl, hp, and_self, if_true]
  rw [pureRun_bind, K.chk]
  simp only [Option.bind_some, hj, if_neg hk]
  rw [List.map_append]
  rfl
end Go.AM
