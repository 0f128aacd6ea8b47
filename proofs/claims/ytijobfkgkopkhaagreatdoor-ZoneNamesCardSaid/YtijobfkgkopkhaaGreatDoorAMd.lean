/-
  What the abstract machine answers for a function, the model's call answers. Asked of the program: Good. Then its steps as rules for simp.
-/
import Derived.Test.YtijobfkgkopkhaaGreatDoorAMc
import Derived.ScopeJumps
import Derived.LoopN
import Derived.Lib.Strings
set_option linter.all false
set_option linter.unusedSimpArgs false
set_option linter.unusedVariables false
set_option linter.unusedSectionVars false
/-! Code and functions: what the abstract machine says, the model does. -/
namespace Go.AM
open Go
open Go.RowKit (Below)
variable {P : Program} {N0 : Nat} {W0 : World} {cl : FuncId → Nat} {fn : Fn'} {rec : Ru} {prot N : Nat} {M : Mp} {w : World} {s s' : St} {a : Act} {e : Exit}

def RuSound (P : Program) (N0 : Nat) (W0 : World) (cl : FuncId → Nat) (k : Nat) (rec : Ru) : Prop := ∀ c prot s e s' N, rec c prot s = some (e, s') → codeOk cl N c = true → prot ≤ s.H.length → ∀ M a w, HR N0 W0 M s.H w → SR M N s a →
  c.wp P (Post N0 W0 prot N M w s' e) a w ∧ ∀ d, c = .loop d → Code.rounds P d (Post N0 W0 prot N M w s' e) k a w
def RuPre (rec : Ru) : Prop := ∀ c prot s e s', rec c prot s = some (e, s') → prot ≤ s.H.length → Pr prot s.H s'.H

theorem rounds_mono {c : Code} {Q Q' : Exit → Act → World → Prop} (h : ∀ e a w, Q e a w → Q' e a w) : ∀ {n : Nat} {a : Act} {w : World}, Code.rounds P c Q n a w → Code.rounds P c Q' n a w
  | 0, _, _, hh => hh
  | n + 1, a, w, hh => by
    rw [rounds_succ] at hh ⊢
    refine wp_mono hh fun e a w hq => ?_
    cases e <;> first | exact h _ _ _ hq | exact rounds_mono h hq

theorem then_post {s1 : St} {e' : Exit} {a1 : Act} {w1 : World} {K : Act → World → Prop} {Q : Exit → Act → World → Prop} (h : Post N0 W0 prot N M w s1 e e' a1 w1) (hK : e = .normal → Post N0 W0 prot N M w s1 .normal .normal a1 w1 → K a1 w1)
    (hQ : e ≠ .normal → Q e' a1 w1) : Exit.then K Q e' a1 w1 := by
  obtain ⟨M', h1, h2, h3, h4, h5⟩ := h
  cases e <;> cases e' <;> first | exact h4.elim | exact hQ (by simp) | exact hK rfl ⟨M', h1, h2, h3, trivial, h5⟩

theorem andThen_pre {x : Option (Exit × St)} {f : St → Option (Exit × St)} (h : andThen x f = some (e, s')) : ∃ e1 s1, x = some (e1, s1) ∧ ((e1 = .normal ∧ f s1 = some (e, s')) ∨ (e1 ≠ .normal ∧ e = e1 ∧ s' = s1)) := by
  unfold andThen at h
  obtain ⟨⟨e1, s1⟩, h1, h⟩ := Option.bind_eq_some_iff.1 h
  refine ⟨e1, s1, h1, ?_⟩
  simp only at h
  split at h
  · exact .inl ⟨rfl, h⟩
  · rename_i hne; cases h; exact .inr ⟨hne, rfl, rfl⟩

theorem codeOk_label : ∀ {c rest : Code} {l : Nat}, codeOk cl N c = true → findLabel c l = some rest → codeOk cl N rest = true
  | .seq a b, rest, l, h, hf => by
    simp only [codeOk, Bool.and_eq_true] at h
    rw [findLabel] at hf
    split at hf
    · rename_i r hr
      cases hf
      simp only [codeOk, Bool.and_eq_true]
      exact ⟨codeOk_label h.1 hr, h.2⟩
    · exact codeOk_label h.2 hf
  | .label l', rest, l, h, hf => by
    rw [findLabel] at hf
    split at hf <;> cases hf
    rfl
  | .skip, _, _, _, hf | .region .., _, _, _, hf | .cond .., _, _, _, hf | .block .., _, _, _, hf | .loop .., _, _, _, hf | .exit .., _, _, _, hf | .ret, _, _, _, hf | .goto .., _, _, _, hf | .scope .., _, _, _, hf => by simp [findLabel] at hf
  | .rangeFunc .., _, _, h, _ => by simp [codeOk] at h

theorem scope_sound {k : Nat} (hrec : RuSound P N0 W0 cl k rec) (hpre : RuPre rec) {c : Code} (hc : codeOk cl N c = true) : ∀ (m : Nat) (cur : Code) (s : St), scopeGo rec prot c m cur s = some (e, s') → codeOk cl N cur = true → prot ≤ s.H.length →
    ∀ M a w, HR N0 W0 M s.H w → SR M N s a → ∀ (b : Frame) (k : List Item) (cs : List Frame), ∃ e' a' w', Post N0 W0 prot N M w s' e e' a' w' ∧ Arrives P (lone (b.at a (.code cur :: .inScope c :: k)) cs w) b k cs e' a' w' := by
  intro m
  induction m with
  | zero => intro cur s h; cases h
  | succ m ih =>
    intro cur s h hcur hp M a w hH hS b k cs
    rw [scopeGo] at h
    obtain ⟨⟨e1, s1⟩, h1, h⟩ := Option.bind_eq_some_iff.1 h
    obtain ⟨e', a1, w1, hq, harr⟩ := (hrec _ _ _ _ _ _ h1 hcur hp M a w hH hS).1 b (.inScope c :: k) cs
    simp only at h
    have hpp := (hpre _ _ _ _ _ h1 hp).1
    split at h
    · rename_i l
      obtain ⟨M', g1, g2, g3, g4, g5⟩ := hq
      cases e' <;> first | (exact g4.elim) | skip
      rename_i l'
      cases (show l = l' from g4)
      split at h
      · rename_i rest hr
        obtain ⟨e2, a2, w2, k1, k2⟩ := ih rest s1 h (codeOk_label hc hr) (by omega) M' a1 w1 g2 g3 b k cs
        exact ⟨e2, a2, w2, k1.trans g1 g5, .of_steps (harr _ (by simp [gotoIn, hr])) k2⟩
      · rename_i hr
        cases h
        exact ⟨.goto l, a1, w1, ⟨M', g1, g2, g3, rfl, g5⟩, fun k' hk => harr k' (by simp [gotoIn, hr, hk])⟩
    · rename_i hne
      cases h
      cases e' with
      | normal => exact ⟨.normal, a1, w1, hq, Steps.trans harr (.one step_inScope)⟩
      | exit id => exact ⟨.exit id, a1, w1, hq, fun k' hk => harr k' (by simp [exitTo, hk])⟩
      | goto l' =>
        obtain ⟨_, _, _, _, g4, _⟩ := hq
        cases e <;> first | exact g4.elim | skip
        exact absurd rfl (hne _)
      | ret => exact ⟨_, a1, w1, hq, harr⟩
      | panic ch => exact ⟨_, a1, w1, hq, harr⟩
      | outgrown => exact ⟨_, a1, w1, hq, harr⟩

theorem scope_pre (hpre : RuPre rec) {c : Code} : ∀ (m : Nat) (cur : Code) (s : St), scopeGo rec prot c m cur s = some (e, s') → prot ≤ s.H.length → Pr prot s.H s'.H := by
  intro m
  induction m with
  | zero => intro cur s h; cases h
  | succ m ih =>
    intro cur s h hp
    rw [scopeGo] at h
    obtain ⟨⟨e1, s1⟩, h1, h⟩ := Option.bind_eq_some_iff.1 h
    have hpp := hpre _ _ _ _ _ h1 hp
    simp only at h
    split at h
    · split at h
      · exact hpp.trans (ih _ _ h (by have := hpp.1; omega))
      · cases h; exact hpp
    · cases h; exact hpp

theorem evC_pre {m : Nat} (hfn : FnPre cl fn) (hrec : RuPre rec) : RuPre (fun c prot s => evC fn P cl m rec prot c s) := by
  intro c prot s e s' h hp
  change evC fn P cl m rec prot c s = _ at h
  cases c <;> simp only [evC] at h <;> first | (cases h; done) | skip
  case skip => cases h; exact .refl _ _
  case region id ops draw =>
    split at h
    · unfold onlyNormal at h
      obtain ⟨⟨e1, s1⟩, h1, h⟩ := Option.bind_eq_some_iff.1 h
      have := evOps_pre hfn h1 hp
      simp only at h
      split at h <;> cases h
      exact this
    · exact evOps_pre hfn h hp
  case seq x y =>
    obtain ⟨e1, s1, h1, h⟩ := andThen_pre h
    have k1 := hrec _ _ _ _ _ h1 hp
    rcases h with ⟨rfl, h⟩ | ⟨_, rfl, rfl⟩
    · exact k1.trans (hrec _ _ _ _ _ h (by have := k1.1; omega))
    · exact k1
  case cond c x y =>
    split at h
    · split at h <;> exact hrec _ _ _ _ _ h hp
    · cases h
  case block id c =>
    obtain ⟨⟨e1, s1⟩, h1, h⟩ := Option.bind_eq_some_iff.1 h
    have k1 := hrec _ _ _ _ _ h1 hp
    simp only at h
    split at h
    · split at h <;> cases h <;> exact k1
    · cases h; exact k1
  case loop c =>
    obtain ⟨e1, s1, h1, h⟩ := andThen_pre h
    have k1 := hrec _ _ _ _ _ h1 hp
    rcases h with ⟨rfl, h⟩ | ⟨_, rfl, rfl⟩
    · exact k1.trans (hrec _ _ _ _ _ h (by have := k1.1; omega))
    · exact k1
  case exit id => cases h; exact .refl _ _
  case ret => cases h; exact .refl _ _
  case label l => cases h; exact .refl _ _
  case goto l => cases h; exact .refl _ _
  case scope c => exact scope_pre hrec _ _ _ h hp

theorem ops_ok {N : Nat} {ops : Array Oper} (h : ops.all (operOk N) = true) : ∀ o ∈ ops.toList, operOk N o = true := by
  rw [Array.all_eq_true_iff_forall_mem] at h
  exact fun o ho => h o (by simpa using ho)

theorem evC_sound {k m : Nat} (hm : P.follows .mixedOrders = true) (hfn : FnSound P N0 W0 cl fn) (hpf : FnPre cl fn) (hrec : RuSound P N0 W0 cl k rec) (hpre : RuPre rec) : RuSound P N0 W0 cl (k + 1) (fun c prot s => evC fn P cl m rec prot c s) := by
  intro c prot s e s' N h hc hp M a w hH hS
  change evC fn P cl m rec prot c s = _ at h
  have self : ∀ {e : Exit}, XR M e e → Post N0 W0 prot N M w s e e a w := fun hx => ⟨M, .refl _, hH, hS, hx, .refl _ _ _⟩
  by_cases hl : ∃ d, c = .loop d
  · obtain ⟨d, rfl⟩ := hl
    simp only [evC] at h
    simp only [codeOk] at hc
    obtain ⟨e1, s1, h1, h⟩ := andThen_pre h
    have key : Code.rounds P d (Post N0 W0 prot N M w s' e) (k + 1) a w := by
      rw [rounds_succ]
      refine wp_mono (hrec _ _ _ _ _ _ h1 hc hp M a w hH hS).1 fun e' a1 w1 hq => then_post hq ?_ ?_
      · rintro rfl ⟨M1, g1, g2, g3, _, g5⟩
        rcases h with ⟨_, h⟩ | ⟨hne, _⟩
        · have := (hrec _ _ _ _ _ N h (by simpa [codeOk] using hc) (by have := (hpre _ _ _ _ _ h1 hp).1; omega) M1 a1 w1 g2 g3).2 d rfl
          exact rounds_mono (fun _ _ _ hq => hq.trans g1 g5) this
        · exact absurd rfl hne
      · intro hne
        rcases h with ⟨rfl, h⟩ | ⟨_, rfl, rfl⟩
        · exact absurd rfl hne
        · exact hq
    exact ⟨wp_loop_rounds _ key, fun d' hd => by cases hd; exact key⟩
  refine ⟨?_, fun d hd => absurd ⟨d, hd⟩ hl⟩
  cases c <;> simp only [evC] at h <;> first | (cases h; done) | skip
  case skip => cases h; exact wp_skip (self trivial)
  case region id ops draw =>
    simp only [codeOk, Bool.and_eq_true] at hc
    split at h
    · rename_i hd
      subst hd
      unfold onlyNormal at h
      obtain ⟨⟨e1, s1⟩, h1, h⟩ := Option.bind_eq_some_iff.1 h
      simp only at h
      split at h
      · cases h
        exact draw_wp hm (by simpa using hc.2) (ops_ok hc.1) hfn hpf hH hS hp h1
      · cases h
    · rename_i hd
      simp only [Bool.not_eq_true] at hd
      subst hd
      refine wp_region ?_
      have := evOps_wp (dq := false) hfn hpf (ops_ok hc.1) ops.toList 0 (by simp) hH hS hp h
      rw [List.range_eq_range']
      simpa using this
  case seq x y =>
    simp only [codeOk, Bool.and_eq_true] at hc
    obtain ⟨e1, s1, h1, h⟩ := andThen_pre h
    refine wp_seq (wp_mono (hrec _ _ _ _ _ _ h1 hc.1 hp M a w hH hS).1 fun e' a1 w1 hq => then_post hq ?_ ?_)
    · rintro rfl ⟨M1, g1, g2, g3, _, g5⟩
      rcases h with ⟨_, h⟩ | ⟨hne, _⟩
      · exact wp_mono (hrec _ _ _ _ _ N h hc.2 (by have := (hpre _ _ _ _ _ h1 hp).1; omega) M1 a1 w1 g2 g3).1 fun _ _ _ hq => hq.trans g1 g5
      · exact absurd rfl hne
    · intro hne
      rcases h with ⟨rfl, h⟩ | ⟨_, rfl, rfl⟩
      · exact absurd rfl hne
      · exact hq
  case cond c x y =>
    simp only [codeOk, Bool.and_eq_true] at hc
    split at h
    · rename_i t ht
      have hv := hS.eval hc.1.1
      rw [ht] at hv
      refine wp_cond ((vr_flat rfl).1 hv) ?_
      cases t with
      | true => exact (hrec _ _ _ _ _ _ h hc.1.2 hp M a w hH hS).1
      | false => exact (hrec _ _ _ _ _ _ h hc.2 hp M a w hH hS).1
    · cases h
  case block id c =>
    simp only [codeOk] at hc
    obtain ⟨⟨e1, s1⟩, h1, h⟩ := Option.bind_eq_some_iff.1 h
    simp only at h
    refine wp_block (wp_mono (hrec _ _ _ _ _ _ h1 hc hp M a w hH hS).1 fun e' a1 w1 hq => ?_)
    obtain ⟨M', g1, g2, g3, g4, g5⟩ := hq
    split at h
    · rename_i i
      cases e' <;> first | exact g4.elim | skip
      rename_i j
      cases (show i = j from g4)
      simp only [Exit.inBlock]
      split at h
      · rename_i hid
        cases h
        rw [if_pos hid]
        exact ⟨M', g1, g2, g3, trivial, g5⟩
      · rename_i hid
        cases h
        rw [if_neg hid]
        exact ⟨M', g1, g2, g3, rfl, g5⟩
    · rename_i hne
      cases h
      cases e' with
      | exit j =>
        cases e <;> first | exact g4.elim | skip
        exact absurd rfl (hne _)
      | _ => exact ⟨M', g1, g2, g3, g4, g5⟩
  case loop d => exact absurd ⟨d, rfl⟩ hl
  case exit id => cases h; exact wp_exit (self rfl)
  case ret => cases h; exact wp_ret (self trivial)
  case label l => cases h; exact wp_label (self trivial)
  case goto l => cases h; exact wp_goto (self rfl)
  case scope c =>
    simp only [codeOk] at hc
    intro b k cs
    obtain ⟨e', a1, w1, hq, harr⟩ := scope_sound hrec hpre hc m c s h hc hp M a w hH hS b k cs
    exact ⟨e', a1, w1, hq, .of_steps (.one step_scope) harr⟩

/-- The results. -/
def resRun (tmps : Array Value) : ResultVar → Sem Value
  | .tmp t => .pure (tmps.getD t undef)
  | .cell x t => (asAddr (tmps.getD x undef)).bind fun b => loadVar t b
theorem res1_sim (hH : HR N0 W0 M s.H w) (hS : SR M N s a) {r : ResultVar} {v : Value} (h : res1 P s r = some v) :
    ∃ v', (resRun a.tmps r).run P w = .ok v' w ∧ VR M v v' := by
  cases r with
  | tmp t => cases h; exact ⟨_, rfl, hS.t t⟩
  | cell x t =>
    simp only [res1] at h
    obtain ⟨v', h1, h2⟩ := load_sim (P := P) hH h (hS.t x)
    refine ⟨v', ?_, h2⟩
    have ht := hS.t x
    unfold ldA at h
    split at h
    · rename_i A off n hx
      rw [hx] at ht
      obtain ⟨b, base, ext, _, hc⟩ := vr_ptr.1 ht
      show ((asAddr (a.tmps.getD x undef)).bind fun b => loadVar t b).run P w = _
      rw [hc] at h1 ⊢
      exact h1
    · cases h

theorem resAll_sim (hH : HR N0 W0 M s.H w) (hS : SR M N s a) : ∀ {rs : List ResultVar} {vs : List Value}, resAll P s rs = some vs →
    ∃ vs', (rs.mapM (resRun a.tmps)).run P w = .ok vs' w ∧ VRL M vs vs'
  | [], vs, h => by cases h; exact ⟨[], rfl, vrl_nil.2 rfl⟩
  | r :: rs, vs, h => by
    rw [resAll] at h
    obtain ⟨v, h1, h⟩ := Option.bind_eq_some_iff.1 h
    obtain ⟨vs1, h2, h⟩ := Option.map_eq_some_iff.1 h
    cases h
    obtain ⟨v', k1, k2⟩ := res1_sim hH hS h1
    obtain ⟨vs', k3, k4⟩ := resAll_sim hH hS h2
    refine ⟨v' :: vs', ?_, vrl_cons2.2 ⟨k2, k4⟩⟩
    rw [List.mapM_cons]
    simp only [Sem.run_bind, k1, Result.andThen_ok, k3, Sem.run_pure]

theorem res_sim (hH : HR N0 W0 M s.H w) (hS : SR M N s a) {fn : Func} {v : Value} (h : resOf P fn.results s = some v) : ∃ v', (results fn a.tmps).run P w = .ok v' w ∧ VR M v v' := by
  unfold resOf at h
  obtain ⟨vs, h1, h⟩ := Option.map_eq_some_iff.1 h
  obtain ⟨vs', k1, k2⟩ := resAll_sim hH hS h1
  have hrun : (results fn a.tmps).run P w = .ok (if h : vs'.toArray.size = 1 then vs'.toArray[0] else .tuple vs'.toArray) w := by
    have : results fn a.tmps = (do let vs ← fn.results.mapM (resRun a.tmps); pure (if h : vs.size = 1 then vs[0] else .tuple vs) : Sem Value) := rfl
    rw [this, Array.mapM_eq_mapM_toList]
    simp only [Sem.run_bind, Sem.run_map, k1, Result.andThen_ok, Sem.run_pure]
  refine ⟨_, hrun, ?_⟩
  have hlen := vrl_len k2
  subst h
  match vs, vs', k2, hlen with
  | [], [], _, _ => exact vr_tuple.2 ⟨#[], rfl, vrl_nil.2 rfl⟩
  | [v], [v'], k2, _ => exact (vrl_cons2.1 k2).1
  | x :: y :: l, x' :: y' :: l', k2, _ =>
    refine vr_tuple.2 ⟨_, ?_, k2⟩
    simp

/-- A function that is given by a summary of its own. -/
def ExtSound (P : Program) (N0 : Nat) (W0 : World) (f : FuncId) (g : Array Value → Nat → Heap → Option (Ending × Heap)) : Prop :=
  Taken P f ∧ ∀ args prot H e H', g args prot H = some (e, H') → prot ≤ H.length → Pr prot H H' ∧ ∀ M w args', HR N0 W0 M H w → VRL M args.toList args'.toList →
    Calls P f args' w fun e' w' => ∃ M', Mle M M' ∧ HR N0 W0 M' H' w' ∧ ER M' e e' ∧ Kp prot M M' w w'

/-- What is asked of a program: of the functions that are taken. -/
structure Good (P : Program) (N0 : Nat) (W0 : World) (cl : FuncId → Nat) (X : Exts) : Prop where
  mixed : P.follows .mixedOrders = true
  ext : ∀ f g, X f = some g → ExtSound P N0 W0 f g
  body : ∀ f, X f = none → cl f ≠ 0 → ∀ fn c, P.funcs[f]? = some fn → fn.body = some c → fn.name ≠ "runtime.NumGoroutine" ∧ codeOk cl fn.ntmps c = true

theorem finish_some {q : Bool} {rs : Array ResultVar} {H H' : Heap} {x : Option (Exit × St)} {e : Ending} (h : finish P q rs H x = some (e, H')) :
    ∃ e1 s1, x = some (e1, s1) ∧ s1.ds = [] ∧ (((e1 = .normal ∨ e1 = .ret) ∧ ∃ v, resOf P rs s1 = some v ∧ e = .returned v ∧ ((H' = s1.H) ∨ (q = true ∧ ground v = true ∧ H' = H))) ∨ (∃ ch, e1 = .panic ch ∧ e = .panicked ch ∧ H' = s1.H)) := by
  unfold finish at h
  obtain ⟨⟨e1, s1⟩, h1, h⟩ := Option.bind_eq_some_iff.1 h
  refine ⟨e1, s1, h1, ?_⟩
  have hv : ∀ {v : Value}, H' = (if (q && ground v) = true then H else s1.H) → (H' = s1.H) ∨ (q = true ∧ ground v = true ∧ H' = H) := by
    intro v hh
    split at hh
    · rename_i hq; simp only [Bool.and_eq_true] at hq; exact .inr ⟨hq.1, hq.2, hh⟩
    · exact .inl hh
  simp only at h
  split at h
  · rename_i hds
    obtain ⟨v, hv1, h⟩ := Option.map_eq_some_iff.1 h
    cases h
    exact ⟨hds, .inl ⟨.inl rfl, v, hv1, rfl, hv rfl⟩⟩
  · rename_i hds
    obtain ⟨v, hv1, h⟩ := Option.map_eq_some_iff.1 h
    cases h
    exact ⟨hds, .inl ⟨.inr rfl, v, hv1, rfl, hv rfl⟩⟩
  · rename_i hds
    cases h
    exact ⟨hds, .inr ⟨_, rfl, rfl, rfl⟩⟩
  · cases h

theorem args_rel {args args' : Array Value} (h : VRL M args.toList args'.toList) (n : Nat) (i : Nat) : VR M (args.getD i undef) ((args' ++ Array.replicate n undef).getD i undef) := by
  have hl := vrl_len h
  simp only [Array.length_toList] at hl
  simp only [Array.getD_eq_getD_getElem?, Array.getElem?_append, Array.getElem?_replicate]
  by_cases hi : i < args.size
  · rw [if_pos (by omega)]
    have := (vrl_iff.1 h).2 i args[i] args'[i] (by simp [hi]) (by simp [show i < args'.size by omega])
    simpa [hi, show i < args'.size by omega] using this
  · rw [if_neg (by omega), Array.getElem?_eq_none (by omega)]
    split <;> exact vr_undef_self

theorem bodyFn_pre {X : Exts} (G : Good P N0 W0 cl X) (hrec : RuPre rec) : FnPre cl (bodyFn P cl X rec) := by
  intro f args prot H e H' h hp
  unfold bodyFn at h
  have hp' : (if cl f = 1 then H.length else prot) ≤ H.length := by split <;> omega
  split at h
  · rename_i g hg
    have := ((G.ext f g hg).2 _ _ _ _ _ h hp').1
    exact this
  · split at h
    · cases h
    · obtain ⟨fn, hf, h⟩ := Option.bind_eq_some_iff.1 h
      obtain ⟨c, hb, h⟩ := Option.bind_eq_some_iff.1 h
      split at h
      · split at h
        · obtain ⟨⟨e1, H1⟩, h1, h⟩ := Option.bind_eq_some_iff.1 h
          simp only at h
          split at h
          · split at h <;> cases h
            exact Pr.refl _ _
          · cases h
        · cases h
      obtain ⟨e1, s1, h1, _, h2⟩ := finish_some h
      have := hrec _ _ _ _ _ h1 hp'
      rcases h2 with ⟨_, v, _, _, h3 | ⟨_, _, h3⟩⟩ | ⟨ch, _, _, h3⟩
      · rw [h3]; exact this
      · rw [h3]; exact Pr.refl _ _
      · rw [h3]; exact this

theorem bodyFn_sound {X : Exts} {k : Nat} (G : Good P N0 W0 cl X) (hrec : RuSound P N0 W0 cl k rec) : FnSound P N0 W0 cl (bodyFn P cl X rec) := by
  intro f args prot H e H' h
  unfold bodyFn at h
  have hp' : prot ≤ H.length → (if cl f = 1 then H.length else prot) ≤ H.length := fun _ => by split <;> omega
  split at h
  · rename_i g hg
    have hX := G.ext f g hg
    exact ⟨hX.1, fun hp M w args' hH hv => (hX.2 _ _ _ _ _ h (hp' hp)).2 M w args' hH hv⟩
  · rename_i hX
    split at h
    · cases h
    · rename_i hcl
      obtain ⟨fn, hf, h⟩ := Option.bind_eq_some_iff.1 h
      obtain ⟨c, hb, h⟩ := Option.bind_eq_some_iff.1 h
      obtain ⟨hname, hok⟩ := G.body f hX hcl fn c hf hb
      refine ⟨⟨fn, hf, by simp [hb], hname⟩, fun hp M w args' hH hv => ?_⟩
      split at h
      · split at h
        · rename_i hg
          obtain ⟨⟨e0, H1⟩, h1, h⟩ := Option.bind_eq_some_iff.1 h
          simp only at h
          split at h
          · rename_i v
            split at h
            · rename_i hgv
              cases h
              have hH0 : HR N0 W0 (fun _ _ => none) [] w := ⟨hH.below, hH.n0, fun A n b base ext e => (by cases e), fun A n A' n' b base ext base' ext' e _ _ => (by cases e)⟩
              have hv0 : VRL (fun _ _ => none) args.toList args'.toList := by
                have hall : ∀ x ∈ args.toList, ground x = true := by
                  have := hg.1
                  rw [Array.all_eq_true_iff_forall_mem] at this
                  exact fun x hx => this x (by simpa using hx)
                rw [vrl_iff] at hv ⊢
                refine ⟨hv.1, fun i x y hx hy => (vr_ground (hall x (List.mem_of_getElem? hx))).2 ((vr_ground (hall x (List.mem_of_getElem? hx))).1 (hv.2 i x y hx hy))⟩
              obtain ⟨e1, s1, h1, hds, h2⟩ := finish_some h1
              have hS : SR (fun _ _ => none) fn.ntmps { t := fun i => args.getD i undef, ds := [], H := [] } { tmps := args' ++ Array.replicate (fn.ntmps - args'.size) undef, defers := [] } :=
                ⟨fun i => args_rel hv0 _ i, by simp only [Array.size_append, Array.size_replicate]; omega, rfl⟩
              refine calls_of_wp hf hb (wp_mono (hrec _ _ _ _ _ _ h1 hok (Nat.zero_le _) _ _ w hH0 hS).1 fun e' a' w' hq => ?_)
              obtain ⟨M', g1, g2, g3, g4, g5⟩ := hq
              have hd : a'.defers = [] := by have := g3.d; rw [hds] at this; exact this
              rcases h2 with ⟨hn, v', hv', e3, _⟩ | ⟨ch, _, e3, _⟩
              · cases e3
                obtain ⟨u, k1, k2⟩ := res_sim g2 g3 hv'
                have fin : a'.defers = [] ∧ ∃ v', (results fn a'.tmps).run P w' = .ok v' w' ∧ ∃ M', Mle M M' ∧ HR N0 W0 M' H w' ∧ ER M' (.returned v) (.returned v') ∧ Kp (if cl f = 1 then H.length else prot) M M' w w' := by
                  refine ⟨hd, u, k1, M, .refl _, ?_, (vr_ground hgv).2 ((vr_ground hgv).1 k2), ?_⟩
                  · exact hH.world (g5.blk w.heap.size (Nat.le_refl _) fun A n b base ext _ e => by cases e).1
                  · exact ⟨fun _ _ _ => rfl, fun B0 hB hM => ⟨(g5.blk B0 hB fun A n b base ext _ e => by cases e).1, hM⟩⟩
                rcases hn with rfl | rfl
                · cases e' <;> first | exact g4.elim | exact fin
                · cases e' <;> first | exact g4.elim | exact fin
              · cases e3
            · cases h
          · cases h
        · cases h
      obtain ⟨e1, s1, h1, hds, h2⟩ := finish_some h
      have hS : SR M fn.ntmps { t := fun i => args.getD i undef, ds := [], H } { tmps := args' ++ Array.replicate (fn.ntmps - args'.size) undef, defers := [] } :=
        ⟨fun i => args_rel hv _ i, by simp only [Array.size_append, Array.size_replicate]; omega, rfl⟩
      refine calls_of_wp hf hb (wp_mono (hrec _ _ _ _ _ _ h1 hok (hp' hp) M _ w hH hS).1 fun e' a' w' hq => ?_)
      obtain ⟨M', g1, g2, g3, g4, g5⟩ := hq
      have hd : a'.defers = [] := by have := g3.d; rw [hds] at this; exact this
      rcases h2 with ⟨hn, v, hv, rfl, h3⟩ | ⟨ch, rfl, rfl, rfl⟩
      · obtain ⟨v', k1, k2⟩ := res_sim g2 g3 hv
        have fin : a'.defers = [] ∧ ∃ v', (results fn a'.tmps).run P w' = .ok v' w' ∧ ∃ M', Mle M M' ∧ HR N0 W0 M' H' w' ∧ ER M' (.returned v) (.returned v') ∧ Kp (if cl f = 1 then H.length else prot) M M' w w' := by
          refine ⟨hd, v', k1, ?_⟩
          rcases h3 with rfl | ⟨hq, hg, rfl⟩
          · exact ⟨M', g1, g2, k2, g5⟩
          · have hq' : cl f = 1 := by simpa using hq
            rw [if_pos hq'] at g5 ⊢
            have hx := g5.ext fun _ _ _ e => hH.valid e
            exact ⟨M, .refl _, hH.world hx.below, (vr_ground hg).2 ((vr_ground hg).1 k2), ⟨fun _ _ _ => rfl, fun B0 hB hM => ⟨hx.below.mono hB, hM⟩⟩⟩
        rcases hn with rfl | rfl
        · cases e' <;> first | exact g4.elim | exact fin
        · cases e' <;> first | exact g4.elim | exact fin
      · cases e' <;> first | exact g4.elim | exact ⟨hd, M', g1, g2, g4, g5⟩

theorem evs_all {X : Exts} (G : Good P N0 W0 cl X) : ∀ k, RuSound P N0 W0 cl k (evs P cl X k).1 ∧ RuPre (evs P cl X k).1 ∧ FnSound P N0 W0 cl (evs P cl X k).2 ∧ FnPre cl (evs P cl X k).2
  | 0 => ⟨fun _ _ _ _ _ _ h => (by cases h), fun _ _ _ _ _ h => (by cases h), fun _ _ _ _ _ _ h => (by cases h), fun _ _ _ _ _ _ h => (by cases h)⟩
  | k + 1 => by
    obtain ⟨h1, h2, h3, h4⟩ := evs_all G k
    exact ⟨evC_sound G.mixed h3 h4 h1 h2, evC_pre h4 h2, bodyFn_sound G h1, bodyFn_pre G h2⟩

/-- A CALL. -/
theorem call_sound {X : Exts} (G : Good P N0 W0 cl X) {k : Nat} {f : FuncId} {args : Array Value} {H H' : Heap} {e : Ending} (h : (evs P cl X k).2 f args prot H = some (e, H')) (hp : prot ≤ H.length) {args' : Array Value} (hH : HR N0 W0 M H w)
    (hv : VRL M args.toList args'.toList) : Calls P f args' w fun e' w' => ∃ M', Mle M M' ∧ HR N0 W0 M' H' w' ∧ ER M' e e' ∧ Kp (if cl f = 1 then H.length else prot) M M' w w' :=
  ((evs_all G k).2.2.1 f args prot H e H' h).2 hp M w args' hH hv

end Go.AM

/-! The abstract machine without its fuel. -/
namespace Go.AM
open Go
variable {P : Program} {cl : FuncId → Nat} {X : Exts}

def Rle (r r' : Ru) : Prop := ∀ c p s x, r c p s = some x → r' c p s = some x
def Fle (f f' : Fn') : Prop := ∀ g a p H x, f g a p H = some x → f' g a p H = some x

theorem bind_mono {α β : Type} {a a' : Option α} {f f' : α → Option β} {y : β} (ha : ∀ x, a = some x → a' = some x) (hf : ∀ x, a = some x → ∀ y, f x = some y → f' x = some y) (h : a.bind f = some y) : a'.bind f' = some y := by
  obtain ⟨x, h1, h2⟩ := Option.bind_eq_some_iff.1 h
  exact Option.bind_eq_some_iff.2 ⟨x, ha x h1, hf x h1 y h2⟩
theorem andThen_mono {a a' : Option (Exit × St)} {f f' : St → Option (Exit × St)} {y : Exit × St} (ha : ∀ x, a = some x → a' = some x) (hf : ∀ s y, f s = some y → f' s = some y) (h : andThen a f = some y) : andThen a' f' = some y := by
  refine bind_mono ha (fun x _ y h => ?_) h
  split at h
  · exact hf _ _ h
  · exact h

theorem evOp_mono {fn fn' : Fn'} (hf : Fle fn fn') {dq : Bool} {prot : Nat} {o : Op} {d : Option Tmp} {s : St} {y : Exit × St} (h : evOp fn P cl dq prot o d s = some y) : evOp fn' P cl dq prot o d s = some y := by
  unfold evOp at h ⊢
  refine bind_mono (fun _ h => h) (fun r _ y h => ?_) h
  split at h
  · exact h
  · exact h
  · exact h
  · exact bind_mono (fun x h => hf _ _ _ _ _ h) (fun _ _ _ h => h) h
  · exact h
  · exact h
theorem evOps_mono {fn fn' : Fn'} (hf : Fle fn fn') {dq : Bool} {prot : Nat} {ops : Array Oper} : ∀ {l : List Oper} {s : St} {y : Exit × St}, evOps fn P cl dq prot ops l s = some y → evOps fn' P cl dq prot ops l s = some y
  | [], _, _, h => h
  | o :: l, s, y, h => by
    rw [evOps] at h ⊢
    refine bind_mono (fun _ h => h) (fun b _ y h => ?_) h
    cases b with
    | true => exact andThen_mono (fun _ h => evOp_mono hf h) (fun _ _ h => evOps_mono hf h) h
    | false => exact evOps_mono hf h
theorem scopeGo_mono {r r' : Ru} (hr : Rle r r') {prot : Nat} {c : Code} : ∀ {m m' : Nat} {cur : Code} {s : St} {y : Exit × St}, m ≤ m' → scopeGo r prot c m cur s = some y → scopeGo r' prot c m' cur s = some y
  | 0, _, _, _, _, _, h => by cases h
  | m + 1, 0, _, _, _, hm, h => by omega
  | m + 1, m' + 1, cur, s, y, hm, h => by
    rw [scopeGo] at h ⊢
    refine bind_mono (fun x h => hr _ _ _ _ h) (fun x _ y h => ?_) h
    obtain ⟨e, s1⟩ := x
    cases e with
    | goto l =>
      simp only at h ⊢
      cases hl : findLabel c l with
      | some rest => rw [hl] at h; exact scopeGo_mono hr (by omega) h
      | none => rw [hl] at h; exact h
    | _ => exact h
theorem evC_mono {fn fn' : Fn'} {r r' : Ru} {m m' : Nat} (hf : Fle fn fn') (hr : Rle r r') (hm : m ≤ m') : Rle (fun c p s => evC fn P cl m r p c s) (fun c p s => evC fn' P cl m' r' p c s) := by
  intro c p s y h
  change evC fn P cl m r p c s = _ at h
  change evC fn' P cl m' r' p c s = _
  cases c <;> simp only [evC] at h ⊢ <;> first | exact h | skip
  case region id ops draw =>
    split at h
    · rename_i hd
      rw [if_pos hd]
      exact bind_mono (fun _ h => evOps_mono hf h) (fun _ _ _ h => h) h
    · rename_i hd
      rw [if_neg hd]
      exact evOps_mono hf h
  case seq a b => exact andThen_mono (fun _ h => hr _ _ _ _ h) (fun _ _ h => hr _ _ _ _ h) h
  case cond c a b =>
    split at h
    · split at h
      · rename_i ht; rw [if_pos ht]; exact hr _ _ _ _ h
      · rename_i ht; rw [if_neg ht]; exact hr _ _ _ _ h
    · cases h
  case block id c => exact bind_mono (fun _ h => hr _ _ _ _ h) (fun _ _ _ h => h) h
  case loop c => exact andThen_mono (fun _ h => hr _ _ _ _ h) (fun _ _ h => hr _ _ _ _ h) h
  case scope c => exact scopeGo_mono hr hm h
theorem bodyFn_mono {r r' : Ru} (hr : Rle r r') : Fle (bodyFn P cl X r) (bodyFn P cl X r') := by
  intro f a p H y h
  unfold bodyFn at h ⊢
  split at h
  · exact h
  · split at h
    · cases h
    · rename_i hc
      rw [if_neg hc]
      refine bind_mono (fun _ h => h) (fun fn _ y h => ?_) h
      refine bind_mono (fun _ h => h) (fun c _ y h => ?_) h
      split at h
      · rename_i hpu
        rw [if_pos hpu]
        split at h
        · rename_i hg
          rw [if_pos hg]
          refine bind_mono (fun _ h => ?_) (fun _ _ _ h => h) h
          unfold finish at h ⊢
          exact bind_mono (fun _ h => hr _ _ _ _ h) (fun _ _ _ h => h) h
        · cases h
      rename_i hpu
      rw [if_neg hpu]
      unfold finish at h ⊢
      exact bind_mono (fun _ h => hr _ _ _ _ h) (fun _ _ _ h => h) h

theorem evs_succ (k : Nat) : Rle (evs P cl X k).1 (evs P cl X (k + 1)).1 ∧ Fle (evs P cl X k).2 (evs P cl X (k + 1)).2 := by
  induction k with
  | zero => exact ⟨fun _ _ _ _ h => (by cases h), fun _ _ _ _ _ h => (by cases h)⟩
  | succ k ih => exact ⟨evC_mono ih.2 ih.1 (Nat.le_succ k), bodyFn_mono ih.1⟩
theorem evs_le {i j : Nat} (h : i ≤ j) : Rle (evs P cl X i).1 (evs P cl X j).1 ∧ Fle (evs P cl X i).2 (evs P cl X j).2 := by
  induction h with
  | refl => exact ⟨fun _ _ _ _ h => h, fun _ _ _ _ _ h => h⟩
  | step _ ih => exact ⟨fun _ _ _ _ h => (evs_succ _).1 _ _ _ _ (ih.1 _ _ _ _ h), fun _ _ _ _ _ h => (evs_succ _).2 _ _ _ _ _ (ih.2 _ _ _ _ _ h)⟩

open Classical in
noncomputable def limR (P : Program) (cl : FuncId → Nat) (X : Exts) : Ru := fun c p s => if h : ∃ x k, (evs P cl X k).1 c p s = some x then some h.choose else none
open Classical in
noncomputable def limF (P : Program) (cl : FuncId → Nat) (X : Exts) : Fn' := fun f a p H => if h : ∃ x k, (evs P cl X k).2 f a p H = some x then some h.choose else none

theorem limR_iff {c : Code} {p : Nat} {s : St} {x : Exit × St} : limR P cl X c p s = some x ↔ ∃ k, (evs P cl X k).1 c p s = some x := by
  unfold limR
  constructor
  · intro h
    split at h
    · rename_i hh
      cases h
      exact hh.choose_spec
    · cases h
  · rintro ⟨k, hk⟩
    have hh : ∃ x k, (evs P cl X k).1 c p s = some x := ⟨x, k, hk⟩
    rw [dif_pos hh]
    obtain ⟨j, hj⟩ := hh.choose_spec
    have h1 := (evs_le (P := P) (cl := cl) (X := X) (Nat.le_max_left k j)).1 _ _ _ _ hk
    have h2 := (evs_le (P := P) (cl := cl) (X := X) (Nat.le_max_right k j)).1 _ _ _ _ hj
    rw [h1] at h2
    exact h2.symm
theorem limF_iff {f : FuncId} {a : Array Value} {p : Nat} {H : Heap} {x : Ending × Heap} : limF P cl X f a p H = some x ↔ ∃ k, (evs P cl X k).2 f a p H = some x := by
  unfold limF
  constructor
  · intro h
    split at h
    · rename_i hh
      cases h
      exact hh.choose_spec
    · cases h
  · rintro ⟨k, hk⟩
    have hh : ∃ x k, (evs P cl X k).2 f a p H = some x := ⟨x, k, hk⟩
    rw [dif_pos hh]
    obtain ⟨j, hj⟩ := hh.choose_spec
    have h1 := (evs_le (P := P) (cl := cl) (X := X) (Nat.le_max_left k j)).2 _ _ _ _ _ hk
    have h2 := (evs_le (P := P) (cl := cl) (X := X) (Nat.le_max_right k j)).2 _ _ _ _ _ hj
    rw [h1] at h2
    exact h2.symm

theorem le_limR (k : Nat) : Rle (evs P cl X k).1 (limR P cl X) := fun _ _ _ _ h => limR_iff.2 ⟨k, h⟩
theorem le_limF (k : Nat) : Fle (evs P cl X k).2 (limF P cl X) := fun _ _ _ _ _ h => limF_iff.2 ⟨k, h⟩

/-! What is found in the limit is found at some fuel. -/
theorem bind_cont {α β : Type} {A : Nat → Option α} {F : Nat → α → Option β} {a : Option α} {f : α → Option β} {y : β} (ha : ∀ x, a = some x → ∃ k, ∀ j, k ≤ j → A j = some x) (hf : ∀ x, a = some x → ∀ y, f x = some y → ∃ k, ∀ j, k ≤ j → F j x = some y)
    (h : a.bind f = some y) : ∃ k, ∀ j, k ≤ j → (A j).bind (F j) = some y := by
  obtain ⟨x, h1, h2⟩ := Option.bind_eq_some_iff.1 h
  obtain ⟨k1, g1⟩ := ha x h1
  obtain ⟨k2, g2⟩ := hf x h1 y h2
  exact ⟨max k1 k2, fun j hj => by rw [g1 j (by omega)]; exact g2 j (by omega)⟩
theorem const_cont {α : Type} {a : Option α} {x : α} (h : a = some x) : ∃ k : Nat, ∀ j, k ≤ j → a = some x := ⟨0, fun _ _ => h⟩

theorem limR_cont {c : Code} {p : Nat} {s : St} {x : Exit × St} (h : limR P cl X c p s = some x) : ∃ k, ∀ j, k ≤ j → (evs P cl X j).1 c p s = some x := by
  obtain ⟨k, hk⟩ := limR_iff.1 h
  exact ⟨k, fun j hj => (evs_le hj).1 _ _ _ _ hk⟩
theorem limF_cont {f : FuncId} {a : Array Value} {p : Nat} {H : Heap} {x : Ending × Heap} (h : limF P cl X f a p H = some x) : ∃ k, ∀ j, k ≤ j → (evs P cl X j).2 f a p H = some x := by
  obtain ⟨k, hk⟩ := limF_iff.1 h
  exact ⟨k, fun j hj => (evs_le hj).2 _ _ _ _ _ hk⟩

theorem andThen_cont {A : Nat → Option (Exit × St)} {F : Nat → St → Option (Exit × St)} {a : Option (Exit × St)} {f : St → Option (Exit × St)} {y : Exit × St} (ha : ∀ x, a = some x → ∃ k, ∀ j, k ≤ j → A j = some x) (hf : ∀ s y, f s = some y → ∃ k, ∀ j, k ≤ j → F j s = some y)
    (h : andThen a f = some y) : ∃ k, ∀ j, k ≤ j → andThen (A j) (F j) = some y := by
  refine bind_cont ha (fun x _ y h => ?_) h
  split at h
  · exact hf _ _ h
  · exact const_cont h

theorem evOp_cont {dq : Bool} {prot : Nat} {o : Op} {d : Option Tmp} {s : St} {y : Exit × St} (h : evOp (limF P cl X) P cl dq prot o d s = some y) : ∃ k, ∀ j, k ≤ j → evOp (evs P cl X j).2 P cl dq prot o d s = some y := by
  unfold evOp at h ⊢
  refine bind_cont (fun _ h => const_cont h) (fun r _ y h => ?_) h
  split at h
  · exact const_cont h
  · exact const_cont h
  · exact const_cont h
  · exact bind_cont (fun x h => limF_cont h) (fun _ _ _ h => const_cont h) h
  · exact const_cont h
  · cases h
theorem evOps_cont {dq : Bool} {prot : Nat} {ops : Array Oper} : ∀ {l : List Oper} {s : St} {y : Exit × St}, evOps (limF P cl X) P cl dq prot ops l s = some y → ∃ k, ∀ j, k ≤ j → evOps (evs P cl X j).2 P cl dq prot ops l s = some y
  | [], _, _, h => ⟨0, fun _ _ => h⟩
  | o :: l, s, y, h => by
    simp only [evOps] at h ⊢
    refine bind_cont (fun _ h => const_cont h) (fun b _ y h => ?_) h
    cases b with
    | true => exact andThen_cont (fun _ h => evOp_cont h) (fun _ _ h => evOps_cont h) h
    | false => exact evOps_cont h

theorem limR_eq {c : Code} {p : Nat} {s : St} {y : Exit × St} {A : Nat → Option (Exit × St)} {a : Option (Exit × St)} (hA : ∀ k, (evs P cl X (k + 1)).1 c p s = A k) (h1 : ∀ y, a = some y → ∃ k, ∀ j, k ≤ j → A j = some y) (h2 : ∀ k y, A k = some y → a = some y) :
    limR P cl X c p s = a := by
  apply Option.ext
  intro y
  constructor
  · intro h
    obtain ⟨k, hk⟩ := limR_cont h
    exact h2 k y (by rw [← hA]; exact hk (k + 1) (by omega))
  · intro h
    obtain ⟨k, hk⟩ := h1 y h
    exact limR_iff.2 ⟨k + 1, by rw [hA]; exact hk k (Nat.le_refl _)⟩

theorem E_skip {p : Nat} {s : St} : limR P cl X .skip p s = some (.normal, s) := limR_iff.2 ⟨1, rfl⟩
theorem E_exit {id p : Nat} {s : St} : limR P cl X (.exit id) p s = some (.exit id, s) := limR_iff.2 ⟨1, rfl⟩
theorem E_ret {p : Nat} {s : St} : limR P cl X .ret p s = some (.ret, s) := limR_iff.2 ⟨1, rfl⟩
theorem E_label {l p : Nat} {s : St} : limR P cl X (.label l) p s = some (.normal, s) := limR_iff.2 ⟨1, rfl⟩
theorem E_goto {l p : Nat} {s : St} : limR P cl X (.goto l) p s = some (.goto l, s) := limR_iff.2 ⟨1, rfl⟩
theorem E_seq {a b : Code} {p : Nat} {s : St} : limR P cl X (.seq a b) p s = andThen (limR P cl X a p s) (limR P cl X b p) :=
  limR_eq (y := (.normal, s)) (A := fun k => andThen ((evs P cl X k).1 a p s) ((evs P cl X k).1 b p)) (fun _ => rfl) (fun _ h => andThen_cont (fun _ h => limR_cont h) (fun _ _ h => limR_cont h) h)
    (fun k y h => andThen_mono (fun _ h => le_limR k _ _ _ _ h) (fun _ _ h => le_limR k _ _ _ _ h) h)
theorem E_region {id p : Nat} {ops : Array Oper} {s : St} : limR P cl X (.region id ops false) p s = evOps (limF P cl X) P cl false p ops ops.toList s :=
  limR_eq (y := (.normal, s)) (A := fun k => evOps (evs P cl X k).2 P cl false p ops ops.toList s) (fun _ => rfl) (fun _ h => evOps_cont h) (fun k y h => evOps_mono (le_limF k) h)
theorem E_draw {id p : Nat} {ops : Array Oper} {s : St} : limR P cl X (.region id ops true) p s = onlyNormal (evOps (limF P cl X) P cl true p ops ops.toList s) :=
  limR_eq (y := (.normal, s)) (A := fun k => onlyNormal (evOps (evs P cl X k).2 P cl true p ops ops.toList s)) (fun _ => rfl) (fun _ h => bind_cont (fun _ h => evOps_cont h) (fun _ _ _ h => const_cont h) h)
    (fun k y h => bind_mono (fun _ h => evOps_mono (le_limF k) h) (fun _ _ _ h => h) h)
theorem E_cond {c : Operand} {a b : Code} {p : Nat} {s : St} : limR P cl X (.cond c a b) p s = (match s.eval c with
    | .bool t => if t = true then limR P cl X a p s else limR P cl X b p s
    | _ => none) :=
  limR_eq (y := (.normal, s)) (A := fun k => match s.eval c with
    | .bool t => if t = true then (evs P cl X k).1 a p s else (evs P cl X k).1 b p s
    | _ => none) (fun _ => rfl) (fun _ h => by
      split at h
      · split at h
        · rename_i ht; simp only [ht, if_true]; exact limR_cont h
        · rename_i ht; simp only [ht, if_false]; exact limR_cont h
      · cases h) (fun k y h => by
      split at h
      · split at h
        · rename_i ht; simp only [ht, if_true]; exact le_limR k _ _ _ _ h
        · rename_i ht; simp only [ht, if_false]; exact le_limR k _ _ _ _ h
      · cases h)
def blockOut (id : Nat) (x : Option (Exit × St)) : Option (Exit × St) := x.bind fun r => match r.1 with
  | .exit i => if i = id then some (.normal, r.2) else some (.exit i, r.2)
  | x => some (x, r.2)
theorem E_block {id : Nat} {c : Code} {p : Nat} {s : St} : limR P cl X (.block id c) p s = blockOut id (limR P cl X c p s) :=
  limR_eq (y := (.normal, s)) (A := fun k => blockOut id ((evs P cl X k).1 c p s)) (fun _ => rfl) (fun _ h => bind_cont (fun _ h => limR_cont h) (fun _ _ _ h => const_cont h) h)
    (fun k y h => bind_mono (fun _ h => le_limR k _ _ _ _ h) (fun _ _ _ h => h) h)
theorem E_loop {c : Code} {p : Nat} {s : St} : limR P cl X (.loop c) p s = andThen (limR P cl X c p s) (limR P cl X (.loop c) p) :=
  limR_eq (y := (.normal, s)) (A := fun k => andThen ((evs P cl X k).1 c p s) ((evs P cl X k).1 (.loop c) p)) (fun _ => rfl) (fun _ h => andThen_cont (fun _ h => limR_cont h) (fun _ _ h => limR_cont h) h)
    (fun k y h => andThen_mono (fun _ h => le_limR k _ _ _ _ h) (fun _ _ h => le_limR k _ _ _ _ h) h)

/-- A scope, by its rounds. -/
theorem E_scope (m : Nat) {c : Code} {p : Nat} {s : St} {y : Exit × St} (h : scopeGo (limR P cl X) p c m c s = some y) : limR P cl X (.scope c) p s = some y := by
  have key : ∀ (m : Nat) (cur : Code) (s : St) (y : Exit × St), scopeGo (limR P cl X) p c m cur s = some y → ∃ k, ∀ j, k ≤ j → scopeGo (evs P cl X j).1 p c m cur s = some y := by
    intro m
    induction m with
    | zero => intro cur s y h; cases h
    | succ m ih =>
      intro cur s y h
      simp only [scopeGo] at h ⊢
      refine bind_cont (fun _ h => limR_cont h) (fun x _ y h => ?_) h
      obtain ⟨e, s1⟩ := x
      cases e with
      | goto l =>
        simp only at h ⊢
        cases hl : findLabel c l with
        | some rest => rw [hl] at h; exact ih _ _ _ h
        | none => rw [hl] at h; exact const_cont h
      | _ => exact const_cont h
  obtain ⟨k, hk⟩ := key m c s y h
  exact limR_iff.2 ⟨max k m + 1, scopeGo_mono (r := (evs P cl X (max k m)).1) (fun _ _ _ _ h => h) (Nat.le_max_right k m) (hk _ (Nat.le_max_left k m))⟩

theorem finish_cont {q : Bool} {rs : Array ResultVar} {H : Heap} {c : Code} {p : Nat} {s : St} {y : Ending × Heap} (h : finish P q rs H (limR P cl X c p s) = some y) : ∃ k, ∀ j, k ≤ j → finish P q rs H ((evs P cl X j).1 c p s) = some y := by
  unfold finish at h ⊢
  exact bind_cont (fun _ h => limR_cont h) (fun _ _ _ h => const_cont h) h
theorem finish_mono (k : Nat) {q : Bool} {rs : Array ResultVar} {H : Heap} {c : Code} {p : Nat} {s : St} {y : Ending × Heap} (h : finish P q rs H ((evs P cl X k).1 c p s) = some y) : finish P q rs H (limR P cl X c p s) = some y := by
  unfold finish at h ⊢
  exact bind_mono (fun _ h => le_limR k _ _ _ _ h) (fun _ _ _ h => h) h

/-- A function, by its body. -/
theorem F_body {f : FuncId} {fn : Func} {c : Code} {a : Array Value} {p : Nat} {H : Heap} (hX : X f = none) (hc : cl f ≠ 0) (hpu : pu cl f = false) (hf : P.funcs[f]? = some fn) (hb : fn.body = some c) :
    limF P cl X f a p H = finish P (cl f == 1) fn.results H (limR P cl X c (if cl f = 1 then H.length else p) { t := fun i => a.getD i undef, ds := [], H }) := by
  apply Option.ext
  intro y
  have hbody : ∀ r, bodyFn P cl X r f a p H = finish P (cl f == 1) fn.results H (r c (if cl f = 1 then H.length else p) { t := fun i => a.getD i undef, ds := [], H }) := by
    intro r
    unfold bodyFn
    rw [hX]
    simp only [if_neg hc, hf, hb, Option.bind_some, hpu, Bool.false_eq_true, if_false]
  constructor
  · intro h
    obtain ⟨k, hk⟩ := limF_cont h
    have := hk (k + 1) (by omega)
    change bodyFn P cl X (evs P cl X k).1 f a p H = _ at this
    rw [hbody] at this
    exact finish_mono k this
  · intro h
    obtain ⟨k, hk⟩ := finish_cont h
    exact limF_iff.2 ⟨k + 1, (hbody _).trans (hk k (Nat.le_refl _))⟩
/-- A function that is run on no memory at all. -/
theorem F_pure {f : FuncId} {fn : Func} {c : Code} {a : Array Value} {p : Nat} {H : Heap} (hX : X f = none) (hc : cl f = 1) (hpu : pu cl f = true) (hf : P.funcs[f]? = some fn) (hb : fn.body = some c) (hg' : a.toList.all ground = true) :
    limF P cl X f a p H = purely H (finish P false fn.results [] (limR P cl X c 0 { t := fun i => a.getD i undef, ds := [], H := [] })) := by
  have hg : a.all ground = true := by rw [← Array.all_toList]; exact hg'
  apply Option.ext
  intro y
  have hbody : ∀ r, bodyFn P cl X r f a p H = purely H (finish P false fn.results [] (r c 0 { t := fun i => a.getD i undef, ds := [], H := [] })) := by
    intro r
    unfold bodyFn
    rw [hX]
    simp only [hc, Nat.one_ne_zero, if_false, hf, hb, Option.bind_some, hpu, if_true, hg, and_self]
  constructor
  · intro h
    obtain ⟨k, hk⟩ := limF_cont h
    have := hk (k + 1) (by omega)
    change bodyFn P cl X (evs P cl X k).1 f a p H = _ at this
    rw [hbody] at this
    exact bind_mono (fun _ h => finish_mono k h) (fun _ _ _ h => h) this
  · intro h
    have hfin : ∃ k, ∀ j, k ≤ j → purely H (finish P false fn.results [] ((evs P cl X j).1 c 0 { t := fun i => a.getD i undef, ds := [], H := [] })) = some y := by
      unfold purely at h ⊢
      exact bind_cont (fun _ h => finish_cont h) (fun _ _ _ h => const_cont h) h
    obtain ⟨k, hk⟩ := hfin
    exact limF_iff.2 ⟨k + 1, (hbody _).trans (hk k (Nat.le_refl _))⟩
theorem F_ext {f : FuncId} {g : Array Value → Nat → Heap → Option (Ending × Heap)} {a : Array Value} {p : Nat} {H : Heap} (hX : X f = some g) : limF P cl X f a p H = g a (if cl f = 1 then H.length else p) H := by
  apply Option.ext
  intro y
  have hbody : ∀ r, bodyFn P cl X r f a p H = g a (if cl f = 1 then H.length else p) H := by
    intro r
    unfold bodyFn
    rw [hX]
  constructor
  · intro h
    obtain ⟨k, hk⟩ := limF_cont h
    rw [← hbody (evs P cl X k).1]
    exact hk (k + 1) (by omega)
  · intro h
    exact limF_iff.2 ⟨1, (hbody _).trans h⟩

theorem F_sound {N0 : Nat} {W0 : World} (G : Good P N0 W0 cl X) {f : FuncId} {args : Array Value} {prot : Nat} {w : World} {M : Mp} {H H' : Heap} {e : Ending} (h : limF P cl X f args prot H = some (e, H')) (hp : prot ≤ H.length) {args' : Array Value} (hH : HR N0 W0 M H w)
    (hv : VRL M args.toList args'.toList) : Calls P f args' w fun e' w' => ∃ M', Mle M M' ∧ HR N0 W0 M' H' w' ∧ ER M' e e' ∧ Kp (if cl f = 1 then H.length else prot) M M' w w' := by
  obtain ⟨k, hk⟩ := limF_iff.1 h
  exact call_sound G hk hp hH hv

end Go.AM

/-! Steps of the abstract machine, as rules. -/
namespace Go.AM
open Go
variable {P : Program} {cl : FuncId → Nat} {fn : Fn'} {dq : Bool} {p d : Nat} {t : Nat → Value} {ds : List Deferred} {H : Heap} {ops : Array Oper}

/-- A text of bytes. -/
abbrev str (l : List UInt8) : Value := .string ⟨l.toArray⟩

def stepV (t : Nat → Value) (ds : List Deferred) (H : Heap) (d : Nat) (x : Option Value) : Option (Exit × St) := x.bind fun v => some (.normal, ⟨upd t d v, ds, H⟩)
def stepVH (t : Nat → Value) (ds : List Deferred) (d : Nat) (x : Option (Value × Heap)) : Option (Exit × St) := x.bind fun v => some (.normal, ⟨upd t d v.1, ds, v.2⟩)
def stepU (t : Nat → Value) (ds : List Deferred) (x : Option Heap) : Option (Exit × St) := x.bind fun H => some (.normal, ⟨t, ds, H⟩)
def stepF (t : Nat → Value) (ds : List Deferred) (d : Option Tmp) (x : Option (Ending × Heap)) : Option (Exit × St) := x.bind fun q => match q.1 with
  | .returned v => some (.normal, match d with
    | some d => ⟨upd t d v, ds, q.2⟩
    | none => ⟨t, ds, q.2⟩)
  | .panicked ch => some (.panic ch, ⟨t, ds, q.2⟩)
  | .outgrown => none
theorem stepV_some (v : Value) : stepV t ds H d (some v) = some (.normal, ⟨upd t d v, ds, H⟩) := (rfl)
theorem stepVH_some (v : Value) : stepVH t ds d (some (v, H)) = some (.normal, ⟨upd t d v, ds, H⟩) := (rfl)
theorem stepU_some : stepU t ds (some H) = some (.normal, ⟨t, ds, H⟩) := (rfl)
theorem stepF_some (v : Value) : stepF t ds (some d) (some (.returned v, H)) = some (.normal, ⟨upd t d v, ds, H⟩) := (rfl)
theorem stepF_none (v : Value) : stepF t ds none (some (.returned v, H)) = some (.normal, ⟨t, ds, H⟩) := (rfl)
theorem andThen_normal (s : St) (f : St → Option (Exit × St)) : andThen (some (.normal, s)) f = f s := (rfl)
theorem andThen_ret (s : St) (f : St → Option (Exit × St)) : andThen (some (.ret, s)) f = some (.ret, s) := (rfl)
theorem andThen_exit (i : Nat) (s : St) (f : St → Option (Exit × St)) : andThen (some (.exit i, s)) f = some (.exit i, s) := (rfl)
theorem andThen_goto (i : Nat) (s : St) (f : St → Option (Exit × St)) : andThen (some (.goto i, s)) f = some (.goto i, s) := (rfl)
theorem blockOut_exit (s : St) (i j : Nat) : blockOut i (some (.exit j, s)) = if j = i then some (.normal, s) else some (.exit j, s) := (rfl)
theorem blockOut_normal (s : St) (i : Nat) : blockOut i (some (.normal, s)) = some (.normal, s) := (rfl)
theorem blockOut_ret (s : St) (i : Nat) : blockOut i (some (.ret, s)) = some (.ret, s) := (rfl)
theorem blockOut_goto (s : St) (i l : Nat) : blockOut i (some (.goto l, s)) = some (.goto l, s) := (rfl)
theorem onlyNormal_some (s : St) : onlyNormal (some (.normal, s)) = some (.normal, s) := (rfl)

theorem evOps_nil (s : St) : evOps fn P cl dq p ops [] s = some (.normal, s) := (rfl)
theorem evOps_plain (dst : Option Tmp) (op : Op) (ty : TypeId) (pos : String) (aft : Array Edge) (l : List Oper) (s : St) :
    evOps fn P cl dq p ops ({ dst, op, type := ty, pos, after := aft, guard := none } :: l) s = andThen (evOp fn P cl dq p op dst s) (evOps fn P cl dq p ops l) := (rfl)
def guardV (o : Option Oper) (t : Nat → Value) (want : Bool) : Option Bool := match o.bind (·.dst) with
    | some d => match t d with
      | .bool b => some (b == want)
      | .tuple _ => some false
      | _ => none
    | none => some false
/-- A way that parts: what lies ahead on either side stays closed. -/
def pickB (q : Bool) (f g : St → Option (Exit × St)) (s1 s2 : St) : Option (Exit × St) := if q = true then f s1 else g s2
theorem pickB_true (f g : St → Option (Exit × St)) (s1 s2 : St) : pickB true f g s1 s2 = f s1 := (rfl)
theorem pickB_false (f g : St → Option (Exit × St)) (s1 s2 : St) : pickB false f g s1 s2 = g s2 := (rfl)
theorem pickB_cases {q : Bool} {f g : St → Option (Exit × St)} {s1 s2 : St} {z : Option (Exit × St)} (h : pickB q f g s1 s2 = z) : (q = true ∧ z = f s1) ∨ (q = false ∧ z = g s2) := by
  subst h
  cases q
  · exact .inr ⟨rfl, rfl⟩
  · exact .inl ⟨rfl, rfl⟩
def ifWant (b : Option Bool) (f g : St → Option (Exit × St)) (s1 s2 : St) : Option (Exit × St) := b.bind fun b => pickB b f g s1 s2
theorem ifWant_some (b : Bool) (f g : St → Option (Exit × St)) (s1 s2 : St) : ifWant (some b) f g s1 s2 = pickB b f g s1 s2 := (rfl)
def condR (v : Value) (f g : St → Option (Exit × St)) (s : St) : Option (Exit × St) := match v with
  | .bool b => pickB b f g s s
  | _ => none
theorem condR_bool (b : Bool) (f g : St → Option (Exit × St)) (s : St) : condR (.bool b) f g s = pickB b f g s s := (rfl)
theorem E_cond' {X : Exts} {c : Operand} {a b : Code} {p : Nat} {s : St} : limR P cl X (.cond c a b) p s = condR (s.eval c) (limR P cl X a p) (limR P cl X b p) s := E_cond
def opThen (fn : Fn') (P : Program) (cl : FuncId → Nat) (dq : Bool) (p : Nat) (ops : Array Oper) (op : Op) (dst : Option Tmp) (l : List Oper) (s : St) : Option (Exit × St) := andThen (evOp fn P cl dq p op dst s) (evOps fn P cl dq p ops l)
theorem opThen_eq (op : Op) (dst : Option Tmp) (l : List Oper) (s : St) : opThen fn P cl dq p ops op dst l s = andThen (evOp fn P cl dq p op dst s) (evOps fn P cl dq p ops l) := (rfl)
def guardB (v : Value) (want : Bool) : Option Bool := match v with
  | .bool b => some (b == want)
  | .tuple _ => some false
  | _ => none
theorem guardB_bool (b want : Bool) : guardB (.bool b) want = some (b == want) := (rfl)
theorem guardB_undef (want : Bool) : guardB undef want = some false := (rfl)
theorem guardV_dst (dst : Tmp) (op : Op) (ty : TypeId) (pos : String) (aft : Array Edge) (g : Option (Nat × Bool)) (want : Bool) :
    guardV (some { dst := some dst, op, type := ty, pos, after := aft, guard := g }) t want = guardB (t dst) want := (rfl)
theorem evOps_guard (dst : Tmp) (op : Op) (ty : TypeId) (pos : String) (aft : Array Edge) (j : Nat) (want : Bool) (l : List Oper) :
    evOps fn P cl dq p ops ({ dst := some dst, op, type := ty, pos, after := aft, guard := some (j, want) } :: l) ⟨t, ds, H⟩ =
      ifWant (guardV ops[j]? t want) (opThen fn P cl dq p ops op (some dst) l) (evOps fn P cl dq p ops l) ⟨t, ds, H⟩ ⟨upd t dst undef, ds, H⟩ := (rfl)

def selU (b : Bool) (v : Value) (t : Nat → Value) (j : Nat) : Value := if b = true then v else t j
theorem selU_congr {b b' : Bool} (h : b = b') (v : Value) (t : Nat → Value) (j : Nat) : selU b v t j = selU b' v t j := by rw [h]
theorem selU_true (v : Value) (t : Nat → Value) (j : Nat) : selU true v t j = v := (rfl)
theorem selU_false (v : Value) (t : Nat → Value) (j : Nat) : selU false v t j = t j := (rfl)
theorem upd_at (v : Value) (i j : Nat) : upd t i v j = selU (j == i) v t j := by
  unfold upd selU
  by_cases h : j = i <;> simp [h]
theorem getD_0 (x : Value) (l : List Value) (d : Value) : (List.toArray (x :: l)).getD 0 d = x := (rfl)
theorem getD_s (x : Value) (l : List Value) (i : Nat) (d : Value) : (List.toArray (x :: l)).getD (i + 1) d = (List.toArray l).getD i d := by
  simp [Array.getD_eq_getD_getElem?]
theorem getD_nil (i : Nat) (d : Value) : (List.toArray ([] : List Value)).getD i d = d := (rfl)
theorem eval_tmp (i : Nat) : St.eval ⟨t, ds, H⟩ (.tmp i) = t i := (rfl)
theorem eval_const (v : Value) : St.eval ⟨t, ds, H⟩ (.const v) = v := (rfl)
theorem eval_global (g : Nat) : St.eval ⟨t, ds, H⟩ (.global g) = .chan (some 0) := (rfl)
theorem eval_func (f : FuncId) : St.eval ⟨t, ds, H⟩ (.func f) = .func (.func f) #[] #[] := (rfl)
theorem isC_tmp (i : Nat) : isC (.tmp i) = false := (rfl)
theorem isC_const (v : Value) : isC (.const v) = true := (rfl)

theorem ev_move (x : Operand) : evOp fn P cl dq p (.move x) (some d) ⟨t, ds, H⟩ = some (.normal, ⟨upd t d (St.eval ⟨t, ds, H⟩ x), ds, H⟩) := (rfl)
theorem ev_assign (x : Operand) : evOp fn P cl dq p (.assign x) (some d) ⟨t, ds, H⟩ = some (.normal, ⟨upd t d (St.eval ⟨t, ds, H⟩ x), ds, H⟩) := (rfl)

theorem evOp_vR {op : Op} {x : Option Value} (h : aexec P cl dq p (St.eval ⟨t, ds, H⟩) op H = vR H x) : evOp fn P cl dq p op (some d) ⟨t, ds, H⟩ = stepV t ds H d x := by
  unfold evOp
  rw [h]
  cases x <;> rfl
theorem evOp_vH {op : Op} {x : Option (Value × Heap)} (h : aexec P cl dq p (St.eval ⟨t, ds, H⟩) op H = vH x) : evOp fn P cl dq p op (some d) ⟨t, ds, H⟩ = stepVH t ds d x := by
  unfold evOp
  rw [h]
  rcases x with _ | ⟨v, H'⟩ <;> rfl
theorem evOp_uH {op : Op} {x : Option Heap} (h : aexec P cl dq p (St.eval ⟨t, ds, H⟩) op H = uH x) : evOp fn P cl dq p op none ⟨t, ds, H⟩ = stepU t ds x := by
  unfold evOp
  rw [h]
  cases x <;> rfl
theorem ev_pick (c x y : Operand) : evOp fn P cl dq p (.pick c x y) (some d) ⟨t, ds, H⟩ = stepV t ds H d (pickV (St.eval ⟨t, ds, H⟩ c) (St.eval ⟨t, ds, H⟩ x) (St.eval ⟨t, ds, H⟩ y)) := evOp_vR rfl
theorem ev_build (T : TypeId) (ps : Array (Nat × Operand)) : evOp fn P cl dq p (.build T ps) (some d) ⟨t, ds, H⟩ = stepV t ds H d (bldV P T (ps.map fun (i, x) => (i, St.eval ⟨t, ds, H⟩ x))) := evOp_vR rfl
theorem ev_load (T : TypeId) (a : Operand) : evOp fn P cl dq p (.load T a) (some d) ⟨t, ds, H⟩ = stepV t ds H d (ldA P H T (St.eval ⟨t, ds, H⟩ a)) := evOp_vR rfl
theorem ev_store (T : TypeId) (a x : Operand) : evOp fn P cl dq p (.store T a x) none ⟨t, ds, H⟩ = stepU t ds (stA P H p T (St.eval ⟨t, ds, H⟩ a) (St.eval ⟨t, ds, H⟩ x)) := evOp_uH rfl
theorem ev_bin (op : BinOp) (T T' : TypeId) (x y : Operand) : evOp fn P cl dq p (.binOp op T x y T') (some d) ⟨t, ds, H⟩ = stepV t ds H d (binV P (isC x || isC y) op T (St.eval ⟨t, ds, H⟩ x) (St.eval ⟨t, ds, H⟩ y)) := evOp_vR rfl
theorem ev_un (op : UnOp) (T : TypeId) (x : Operand) : evOp fn P cl dq p (.unOp op T x) (some d) ⟨t, ds, H⟩ = stepV t ds H d (unV P op (St.eval ⟨t, ds, H⟩ x)) := evOp_vR rfl
theorem ev_convert (s T : TypeId) (x : Operand) : evOp fn P cl dq p (.convert s T x) (some d) ⟨t, ds, H⟩ = stepVH t ds d (convV P s T (St.eval ⟨t, ds, H⟩ x) H) := evOp_vH rfl
theorem ev_iface (T : TypeId) (x : Operand) : evOp fn P cl dq p (.makeInterface T x) (some d) ⟨t, ds, H⟩ = stepV t ds H d (mkIV P T (St.eval ⟨t, ds, H⟩ x)) := evOp_vR rfl
theorem ev_makeSlice (T : TypeId) (l c : Operand) : evOp fn P cl dq p (.makeSlice T l c) (some d) ⟨t, ds, H⟩ = stepVH t ds d (mkSl P T (St.eval ⟨t, ds, H⟩ l) (St.eval ⟨t, ds, H⟩ c) H) := evOp_vH rfl
theorem ev_slice (T : TypeId) (x : Operand) (lo hi mx : Option Operand) : evOp fn P cl dq p (.slice T x lo hi mx) (some d) ⟨t, ds, H⟩ = stepV t ds H d (sliceV P T (St.eval ⟨t, ds, H⟩ x) (lo.map (St.eval ⟨t, ds, H⟩)) (hi.map (St.eval ⟨t, ds, H⟩)) (mx.map (St.eval ⟨t, ds, H⟩))) := evOp_vR rfl
theorem ev_fieldAddr (T : TypeId) (x : Operand) (f : Nat) : evOp fn P cl dq p (.fieldAddr T x f) (some d) ⟨t, ds, H⟩ = stepV t ds H d (fieldA P T (St.eval ⟨t, ds, H⟩ x) f) := evOp_vR rfl
theorem ev_field (T : TypeId) (x : Operand) (f : Nat) : evOp fn P cl dq p (.field T x f) (some d) ⟨t, ds, H⟩ = stepV t ds H d (fldV P T (St.eval ⟨t, ds, H⟩ x) f) := evOp_vR rfl
theorem ev_indexAddr (T : TypeId) (x i : Operand) : evOp fn P cl dq p (.indexAddr T x i) (some d) ⟨t, ds, H⟩ = stepV t ds H d (idxA P T (St.eval ⟨t, ds, H⟩ x) (St.eval ⟨t, ds, H⟩ i)) := evOp_vR rfl
theorem ev_index (T : TypeId) (x i : Operand) : evOp fn P cl dq p (.index T x i) (some d) ⟨t, ds, H⟩ = stepV t ds H d (idxV P T (St.eval ⟨t, ds, H⟩ x) (St.eval ⟨t, ds, H⟩ i)) := evOp_vR rfl
theorem ev_lookup (T : TypeId) (x k : Operand) (ok : Bool) : evOp fn P cl dq p (.lookup T x k ok) (some d) ⟨t, ds, H⟩ = stepV t ds H d (lookV P T (St.eval ⟨t, ds, H⟩ x) (St.eval ⟨t, ds, H⟩ k) ok H) := evOp_vR rfl
theorem ev_mapUpdate (T : TypeId) (m k v : Operand) : evOp fn P cl dq p (.mapUpdate T m k v) none ⟨t, ds, H⟩ = stepU t ds (mapUp P p T (St.eval ⟨t, ds, H⟩ m) (St.eval ⟨t, ds, H⟩ k) (St.eval ⟨t, ds, H⟩ v) H) := evOp_uH rfl
theorem ev_next (it : Operand) : evOp fn P cl dq p (.next it true) (some d) ⟨t, ds, H⟩ = stepVH t ds d (nextV p (St.eval ⟨t, ds, H⟩ it) H) := evOp_vH rfl
theorem ev_assert (x : Operand) (T T' : TypeId) (ok : Bool) : evOp fn P cl dq p (.typeAssert x T T' ok) (some d) ⟨t, ds, H⟩ = stepV t ds H d (asrtV P (St.eval ⟨t, ds, H⟩ x) T' ok) := evOp_vR rfl
theorem ev_extract (x : Operand) (i : Nat) : evOp fn P cl dq p (.extract x i) (some d) ⟨t, ds, H⟩ = stepV t ds H d (extV (St.eval ⟨t, ds, H⟩ x) i) := evOp_vR rfl
theorem ev_makeFunc (f : Fn) (a b : Array Operand) : evOp fn P cl dq p (.makeFunc f a b) (some d) ⟨t, ds, H⟩ = some (.normal, ⟨upd t d (.func f (a.map (St.eval ⟨t, ds, H⟩)) (b.map (St.eval ⟨t, ds, H⟩))), ds, H⟩) := (rfl)
theorem ev_alloc (T : TypeId) (cs : Array Value) (h : (zer P T).bind cellsV = some cs) : evOp fn P cl dq p (.alloc T) (some d) ⟨t, ds, H⟩ = some (.normal, ⟨upd t d (.pointer (some ⟨H.length, 0, some cs.size⟩)), ds, H ++ [cel T cs]⟩) := by
  unfold evOp
  simp only [aexec, h]
  rfl
def stepB (t : Nat → Value) (ds : List Deferred) (H : Heap) (d : Nat) (T : TypeId) (x : Option (Array Value)) : Option (Exit × St) := x.bind fun cs => some (.normal, ⟨upd t d (.pointer (some ⟨H.length, 0, some cs.size⟩)), ds, H ++ [cel T cs]⟩)
theorem stepB_some (T : TypeId) (cs : Array Value) : stepB t ds H d T (some cs) = some (.normal, ⟨upd t d (.pointer (some ⟨H.length, 0, some cs.size⟩)), ds, H ++ [cel T cs]⟩) := (rfl)
theorem ev_box (T : TypeId) (x : Operand) : evOp fn P cl dq p (.box T x) (some d) ⟨t, ds, H⟩ = stepB t ds H d T (cellsV (St.eval ⟨t, ds, H⟩ x)) := by
  unfold evOp
  simp only [aexec]
  cases cellsV (St.eval ⟨t, ds, H⟩ x) <;> rfl
theorem ev_buildSlice (T : TypeId) (len : Nat) (ps : Array (Nat × Operand)) : evOp fn P cl dq p (.buildSlice T len ps) (some d) ⟨t, ds, H⟩ =
    stepVH t ds d ((fillC P T len (ps.map fun (i, x) => (i, St.eval ⟨t, ds, H⟩ x))).map fun r => (.slice (some ⟨H.length, 0, some r.2.2.size⟩) len r.2.1, H ++ [cel r.1 r.2.2])) := by
  unfold evOp
  simp only [aexec]
  cases fillC P T len (ps.map fun (i, x) => (i, St.eval ⟨t, ds, H⟩ x)) <;> rfl
def nilV : Value → Option Value
  | .pointer (some a) => some (.pointer (some a))
  | _ => none
theorem nilV_some (a : Addr) : nilV (.pointer (some a)) = some (.pointer (some a)) := (rfl)
theorem ev_nilCheck (x : Operand) : evOp fn P cl dq p (.nilCheck x) (some d) ⟨t, ds, H⟩ = stepV t ds H d (nilV (St.eval ⟨t, ds, H⟩ x)) := by
  refine evOp_vR ?_
  simp only [aexec]
  cases St.eval ⟨t, ds, H⟩ x with
  | pointer a => cases a <;> rfl
  | _ => rfl
theorem ev_range (T : TypeId) (x : Operand) (s : ByteArray) (hu : P.underlying T = some .string) (hx : St.eval ⟨t, ds, H⟩ x = .string s) :
    evOp fn P cl dq p (.range T x) (some d) ⟨t, ds, H⟩ = some (.normal, ⟨upd t d (.pointer (some ⟨H.length, 0, some 0⟩)), ds, H ++ [⟨2, 0, #[.string s, .int .i64 0], 0, false, []⟩]⟩) := by
  unfold evOp
  simp only [aexec, hu, hx]
  rfl
theorem ev_makeMap (T k e : TypeId) (hu : P.underlying T = some (.map k e)) :
    evOp fn P cl dq p (.makeMap T none) (some d) ⟨t, ds, H⟩ = some (.normal, ⟨upd t d (.map (some H.length)), ds, H ++ [⟨1, T, #[], 0, false, []⟩]⟩) := by
  unfold evOp
  simp only [aexec, hu]
  rfl
theorem ev_call (f : FuncId) (args : Array Operand) (tys : Array TypeId) (dst : Option Tmp) : evOp fn P cl dq p (.call ⟨.value (.func f), args, tys⟩) dst ⟨t, ds, H⟩ =
    stepF t ds dst (fn f (args.map (St.eval ⟨t, ds, H⟩)) p H) := by
  unfold evOp
  simp only [aexec, acall, dynC, eval_func, Bool.and_false, Bool.false_eq_true, false_and, if_false, Option.bind_some, Array.empty_append, Array.append_empty, stepF]
  congr 1
  funext q
  rcases q with ⟨_ | _ | _, H'⟩ <;> cases dst <;> rfl
theorem ev_callV (x : Nat) (args : Array Operand) (tys : Array TypeId) (dst : Option Tmp) (g : FuncId) (first captured : Array Value) (hx : t x = .func (.func g) first captured) (hc : (dq = true ∧ cl g ≠ 1) = False) :
    evOp fn P cl dq p (.call ⟨.value (.tmp x), args, tys⟩) dst ⟨t, ds, H⟩ = stepF t ds dst (fn g (first ++ args.map (St.eval ⟨t, ds, H⟩) ++ captured) p H) := by
  unfold evOp
  simp only [aexec, acall, dynC, eval_tmp, hx, Bool.and_true, hc, if_false, Option.bind_some, stepF]
  congr 1
  funext q
  rcases q with ⟨_ | _ | _, H'⟩ <;> cases dst <;> rfl
theorem ev_len (x : Operand) (T : TypeId) (hT : lenOkT P T (St.eval ⟨t, ds, H⟩ x) = true) : evOp fn P cl dq p (.call ⟨.builtin .len, #[x], #[T]⟩) (some d) ⟨t, ds, H⟩ = stepV t ds H d (lenV H (St.eval ⟨t, ds, H⟩ x)) := by
  refine evOp_vR ?_
  simp only [aexec, acall, abuiltin, List.map_toArray, List.map_cons, List.map_nil]
  rw [if_pos hT]
def lenW (P : Program) (T : TypeId) (H : Heap) (v : Value) : Option Value := if lenOkT P T v = true then lenV H v else none
theorem ev_lenW (x : Operand) (T : TypeId) : evOp fn P cl dq p (.call ⟨.builtin .len, #[x], #[T]⟩) (some d) ⟨t, ds, H⟩ = stepV t ds H d (lenW P T H (St.eval ⟨t, ds, H⟩ x)) := by
  refine evOp_vR ?_
  simp only [aexec, acall, abuiltin, List.map_toArray, List.map_cons, List.map_nil, lenW]
  by_cases h : lenOkT P T (St.eval ⟨t, ds, H⟩ x) = true
  · rw [if_pos h, if_pos h]
  · rw [if_neg h, if_neg h]; rfl
def appW (P : Program) (p : Nat) (T T' : TypeId) (s x : Value) (H : Heap) : Option (Value × Heap) := if appT P T' = true then appendV P p T s x H else none
theorem ev_appW (x y : Operand) (T T' : TypeId) : evOp fn P cl dq p (.call ⟨.builtin .append, #[x, y], #[T, T']⟩) (some d) ⟨t, ds, H⟩ = stepVH t ds d (appW P p T T' (St.eval ⟨t, ds, H⟩ x) (St.eval ⟨t, ds, H⟩ y) H) := by
  refine evOp_vH ?_
  simp only [aexec, acall, abuiltin, List.map_toArray, List.map_cons, List.map_nil, appW]
  by_cases h : appT P T' = true
  · rw [if_pos h, if_pos h]
  · rw [if_neg h, if_neg h]; rfl
theorem ev_append (x y : Operand) (T T' : TypeId) (hT : appT P T' = true) : evOp fn P cl dq p (.call ⟨.builtin .append, #[x, y], #[T, T']⟩) (some d) ⟨t, ds, H⟩ = stepVH t ds d (appendV P p T (St.eval ⟨t, ds, H⟩ x) (St.eval ⟨t, ds, H⟩ y) H) := by
  refine evOp_vH ?_
  simp only [aexec, acall, abuiltin, List.map_toArray, List.map_cons, List.map_nil]
  rw [if_pos hT]

/-! Values. -/
theorem _root_.Go.Lib.bytes_ext {a b : ByteArray} (h : a.data.toList = b.data.toList) : a = b := by
  obtain ⟨⟨a⟩⟩ := a
  obtain ⟨⟨b⟩⟩ := b
  simp at h
  rw [h]
theorem wrap_i64 {n : Int} (h1 : -9223372036854775808 ≤ n) (h2 : n ≤ 9223372036854775807) : IntKind.i64.wrap n = n := by
  have e : IntKind.i64.wrap n = if n % 18446744073709551616 ≥ 9223372036854775808 then n % 18446744073709551616 - 18446744073709551616 else n % 18446744073709551616 := by
    unfold IntKind.wrap
    simp [IntKind.bits, IntKind.signed]
  rw [e]
  by_cases h : 0 ≤ n
  · rw [Int.emod_eq_of_lt h (by omega), if_neg (by omega)]
  · have : n % 18446744073709551616 = n + 18446744073709551616 := by omega
    rw [this, if_pos (by omega)]
    omega
variable {T : TypeId} {c : Bool}
theorem binV_ints {op : BinOp} {k k' : IntKind} {a b : Int} {v : Value} (h : pureRun P (binOp op T (.int k a) (.int k' b)) = some v) (hv : flat v = true) : binV P c op T (.int k a) (.int k' b) = some v := by
  have hg : pureRun P (eqGuard op T (if c = true then .const .nilIface else .tmp 0) (.tmp 0) (.int k a) (.int k' b)) = some () := by
    unfold eqGuard
    split <;> rfl
  unfold binV
  rw [if_pos (by simp [ground, flat1, flat])]
  unfold binG
  rw [pureRun_bind, hg]
  simp only [Option.bind_some, h, hv, if_true]
theorem bin_eql (k : IntKind) (a b : Int) : binV P c .eql T (.int k a) (.int k b) = some (.bool (decide (a = b))) := binV_ints (by simp [binOp, Op.intCmp, pureRun]; rfl) rfl
theorem bin_neq (k : IntKind) (a b : Int) : binV P c .neq T (.int k a) (.int k b) = some (.bool (!decide (a = b))) := binV_ints (v := .bool (!decide (a = b))) (by
  simp only [binOp, ne_eq, not_true_eq_false, if_false, Op.intCmp]
  show some (Value.bool (a != b)) = _
  rfl) rfl
theorem bin_lss (k : IntKind) (a b : Int) : binV P c .lss T (.int k a) (.int k b) = some (.bool (decide (a < b))) := binV_ints (by simp [binOp, Op.intCmp]; try rfl) rfl
theorem bin_leq (k : IntKind) (a b : Int) : binV P c .leq T (.int k a) (.int k b) = some (.bool (decide (a ≤ b))) := binV_ints (by simp [binOp, Op.intCmp]; try rfl) rfl
theorem bin_gtr (k : IntKind) (a b : Int) : binV P c .gtr T (.int k a) (.int k b) = some (.bool (decide (b < a))) := binV_ints (by simp [binOp, Op.intCmp]; try rfl) rfl
theorem bin_geq (k : IntKind) (a b : Int) : binV P c .geq T (.int k a) (.int k b) = some (.bool (decide (b ≤ a))) := binV_ints (by simp [binOp, Op.intCmp]; try rfl) rfl
theorem bin_add {a b : Int} (h1 : -9223372036854775808 ≤ a + b) (h2 : a + b ≤ 9223372036854775807) : binV P c .add T (.int .i64 a) (.int .i64 b) = some (.int .i64 (a + b)) := by
  rw [binV_ints (v := .int .i64 (IntKind.i64.wrap (a + b))) (by simp [binOp, Op.intArith]; try rfl) rfl, wrap_i64 h1 h2]
theorem bin_sub {a b : Int} (h1 : -9223372036854775808 ≤ a - b) (h2 : a - b ≤ 9223372036854775807) : binV P c .sub T (.int .i64 a) (.int .i64 b) = some (.int .i64 (a - b)) := by
  rw [binV_ints (v := .int .i64 (IntKind.i64.wrap (a - b))) (by simp [binOp, Op.intArith]; try rfl) rfl, wrap_i64 h1 h2]
theorem bin_mul {a b : Int} (h1 : -9223372036854775808 ≤ a * b) (h2 : a * b ≤ 9223372036854775807) : binV P c .mul T (.int .i64 a) (.int .i64 b) = some (.int .i64 (a * b)) := by
  rw [binV_ints (v := .int .i64 (IntKind.i64.wrap (a * b))) (by simp [binOp, Op.intArith]; try rfl) rfl, wrap_i64 h1 h2]
theorem bin_quo {a b : Int} (h0 : b ≠ 0) (h1 : -9223372036854775808 ≤ a.tdiv b) (h2 : a.tdiv b ≤ 9223372036854775807) : binV P c .quo T (.int .i64 a) (.int .i64 b) = some (.int .i64 (a.tdiv b)) := by
  rw [binV_ints (v := .int .i64 (IntKind.i64.wrap (a.tdiv b))) (by simp [binOp, Op.intDiv, h0]; try rfl) rfl, wrap_i64 h1 h2]
theorem bin_rem (k : IntKind) {a b : Int} (h0 : b ≠ 0) : binV P c .rem T (.int k a) (.int k b) = some (.int k (a.tmod b)) :=
  binV_ints (by simp [binOp, Op.intDiv, h0]; try rfl) rfl
theorem un_not (b : Bool) : unV P .not (.bool b) = some (.bool (!b)) := (rfl)
theorem un_neg {a : Int} (h1 : -9223372036854775808 ≤ -a) (h2 : -a ≤ 9223372036854775807) : unV P .neg (.int .i64 a) = some (.int .i64 (-a)) := by
  show some (Value.int .i64 (IntKind.i64.wrap (0 - a))) = _
  rw [wrap_i64 (by omega) (by omega)]
  congr 2
  omega

theorem binV_strs {op : BinOp} {a b : ByteArray} {v : Value} (h : pureRun P (Op.stringOp op a b) = some v) (hv : flat v = true) : binV P c op T (.string a) (.string b) = some v := by
  have hg : pureRun P (eqGuard op T (if c = true then .const .nilIface else .tmp 0) (.tmp 0) (.string a) (.string b)) = some () := by
    unfold eqGuard
    split <;> rfl
  unfold binV
  rw [if_pos (by simp [ground, flat1, flat])]
  unfold binG
  rw [pureRun_bind, hg]
  have : binOp op T (.string a) (.string b) = Op.stringOp op a b := by cases op <;> rfl
  simp only [Option.bind_some, this, h, hv, if_true]
theorem str_add {a b : List UInt8} (h : a.length + b.length ≤ 9223372036854775807) : binV P c .add T (str a) (str b) = some (str (a ++ b)) := by
  refine binV_strs ?_ rfl
  simp only [Op.stringOp]
  rw [if_neg]
  · show some (Value.string (⟨a.toArray⟩ ++ ⟨b.toArray⟩)) = _
    congr 2
  · have : IntKind.i64.max = 9223372036854775807 := by decide
    rw [this]
    simp only [Go.ByteArray.size_mk_toArray]
    omega
theorem str_eql {a b : List UInt8} : binV P c .eql T (str a) (str b) = some (.bool (decide (a = b))) := by
  refine binV_strs ?_ rfl
  simp only [Op.stringOp, Go.Lib.toList_data]
  show some (Value.bool (a == b)) = _
  have e : (a == b) = decide (a = b) := by rw [Bool.eq_iff_iff]; simp
  rw [e]
theorem str_neq {a b : List UInt8} : binV P c .neq T (str a) (str b) = some (.bool (!decide (a = b))) := by
  refine binV_strs ?_ rfl
  simp only [Op.stringOp, Go.Lib.toList_data]
  show some (Value.bool (!(a == b))) = _
  have e : (a == b) = decide (a = b) := by rw [Bool.eq_iff_iff]; simp
  rw [e]
theorem len_str (l : List UInt8) : lenV H (str l) = some (.int .i64 l.length) := (rfl)
theorem lenOk_str (l : List UInt8) (h : P.underlying T = some .string) : lenOkT P T (str l) = true := by simp only [lenOkT, h]
theorem lenW_str (l : List UInt8) (h : P.underlying T = some .string) : lenW P T H (str l) = some (.int .i64 l.length) := by rw [lenW, if_pos (lenOk_str l h)]; rfl
theorem idx_str {l : List UInt8} {n : Int} {b : UInt8} (hu : P.underlying T = some .string) (h0 : 0 ≤ n) (h : l[n.toNat]? = some b) : idxV P T (str l) (.int .i64 n) = some (.int .u8 b.toNat) := by
  simp only [idxV, hu, if_pos h0]
  have : (ByteArray.mk l.toArray)[n.toNat]? = some b := by
    obtain ⟨hlt, hb⟩ := List.getElem?_eq_some_iff.1 h
    rw [getElem?_pos (ByteArray.mk l.toArray) n.toNat hlt]
    simp only [Option.some.injEq]
    exact hb
  rw [this]
  rfl
theorem extract_str (l : List UInt8) (a b : Nat) : (ByteArray.mk l.toArray).extract a b = ByteArray.mk ((l.drop a).take (b - a)).toArray := by
  apply Go.Lib.bytes_ext
  rw [Go.Lib.extract_data]
theorem sl_str {l : List UInt8} {a b : Int} (hu : P.underlying T = some .string) (h0 : 0 ≤ a) (h1 : a ≤ b) (h2 : b ≤ l.length) :
    sliceV P T (str l) (some (.int .i64 a)) (some (.int .i64 b)) none = some (str ((l.drop a.toNat).take (b.toNat - a.toNat))) := by
  simp only [sliceV, hu, Option.isNone_none, if_true, highV, Go.ByteArray.size_mk_toArray]
  rw [if_pos (by omega)]
  simp only [Option.bind_some, lowV]
  rw [if_pos h0]
  simp only [Option.bind_some]
  rw [if_pos (by omega), extract_str]
theorem sl_strLo {l : List UInt8} {a : Int} (hu : P.underlying T = some .string) (h0 : 0 ≤ a) (h1 : a ≤ l.length) :
    sliceV P T (str l) (some (.int .i64 a)) none none = some (str (l.drop a.toNat)) := by
  simp only [sliceV, hu, Option.isNone_none, if_true, highV, Go.ByteArray.size_mk_toArray, Option.bind_some, lowV]
  rw [if_pos h0]
  simp only [Option.bind_some]
  rw [if_pos (by omega), extract_str, List.take_of_length_le (by simp)]
theorem sl_strHi {l : List UInt8} {b : Int} (hu : P.underlying T = some .string) (h0 : 0 ≤ b) (h1 : b ≤ l.length) :
    sliceV P T (str l) none (some (.int .i64 b)) none = some (str (l.take b.toNat)) := by
  simp only [sliceV, hu, Option.isNone_none, if_true, highV, Go.ByteArray.size_mk_toArray]
  rw [if_pos (by omega)]
  simp only [Option.bind_some, lowV]
  rw [if_pos (by omega), extract_str]
  simp

theorem bool_eql (a b : Bool) (hu : P.underlying T = some .bool) : binV P c .eql T (.bool a) (.bool b) = some (.bool (a == b)) := by
  unfold binV
  rw [if_pos (by simp [ground, flat1, flat])]
  unfold binG
  rw [pureRun_bind]
  have hg : pureRun P (eqGuard .eql T (if c = true then .const .nilIface else .tmp 0) (.tmp 0) (.bool a) (.bool b)) = some () := by
    unfold eqGuard
    rfl
  rw [hg]
  simp only [Option.bind_some, binOp, pureRun_bind, Op.equal]
  have : pureRun P (Op.equalIn Op.maxDepth T (.bool a) (.bool b)) = some (a == b) := by
    show pureRun P (Op.equalIn (9999 + 1) T (.bool a) (.bool b)) = _
    unfold Op.equalIn
    rw [pureRun_bind, pureRun_underlying, hu]
    rfl
  rw [this]
  rfl

end Go.AM

/-! Memory, as rules. -/
namespace Go.AM
open Go
variable {P : Program} {cl : FuncId → Nat} {fn : Fn'} {dq : Bool} {p d : Nat} {t : Nat → Value} {ds : List Deferred} {H : Heap} {ops : Array Oper} {T : TypeId}

/-- One cell, some cells of a block. -/
def get1 (B : Option Blk) (off n : Nat) : Option Value := B.bind fun B => if B.k = 0 ∧ B.fl ≤ n ∧ off + 1 ≤ n ∧ n ≤ B.c.size then B.c[off]? else none
def getN (B : Option Blk) (off n cnt : Nat) : Option (Array Value) := B.bind fun B => if B.k = 0 ∧ B.fl ≤ n ∧ off + cnt ≤ n ∧ n ≤ B.c.size then some (B.c.extract off (off + cnt)) else none
theorem get1_some (e : TypeId) (c : Array Value) (fl : Nat) (ro : Bool) (m : List (Value × Value)) (off n : Nat) (h : fl ≤ n ∧ off + 1 ≤ n ∧ n ≤ c.size) : get1 (some ⟨0, e, c, fl, ro, m⟩) off n = c[off]? := by
  simp only [get1, Option.bind_some, true_and, if_pos h]
theorem getN_some (e : TypeId) (c : Array Value) (fl : Nat) (ro : Bool) (m : List (Value × Value)) (off n cnt : Nat) (h : fl ≤ n ∧ off + cnt ≤ n ∧ n ≤ c.size) : getN (some ⟨0, e, c, fl, ro, m⟩) off n cnt = some (c.extract off (off + cnt)) := by
  simp only [getN, Option.bind_some, true_and, if_pos h]
theorem ld_one (hs : sz P T = some 1) (ha : isAggD P T = false) (hu : (P.underlying T).isSome = true) (A off n : Nat) : ldA P H T (.pointer (some ⟨A, off, some n⟩)) = get1 H[A]? off n := by
  simp only [ldA, ldv, hs, Option.bind_some, ha, Bool.false_eq_true, if_false, hu, and_self, if_true, rd, get1]
  cases H[A]? with
  | none => rfl
  | some B =>
    simp only [Option.bind_some]
    split
    · rename_i h
      simp only [Option.bind_some]
      rw [Array.getElem?_extract, if_pos (by omega)]
      simp
    · rfl
theorem ld_agg {s : Nat} (hs : sz P T = some s) (ha : isAggD P T = true) (A off n : Nat) : ldA P H T (.pointer (some ⟨A, off, some n⟩)) = (getN H[A]? off n s).bind fun cs => some (.agg cs) := by
  simp only [ldA, ldv, hs, Option.bind_some, ha, if_true, rd, getN]
def put (H : Heap) (prot A off n : Nat) (B : Option Blk) (vs : List Value) : Option Heap :=
  B.bind fun B => if B.k = 0 ∧ prot ≤ A ∧ B.ro = false ∧ B.fl ≤ n ∧ n = B.c.size ∧ off + vs.length ≤ n then some (H.set A { B with c := putAll B.c off vs, fl := n }) else none
theorem put_some (prot A off n : Nat) (e : TypeId) (c : Array Value) (fl : Nat) (m : List (Value × Value)) (vs : List Value) (h : prot ≤ A ∧ fl ≤ n ∧ n = c.size ∧ off + vs.length ≤ n) :
    put H prot A off n (some ⟨0, e, c, fl, false, m⟩) vs = some (H.set A ⟨0, e, putAll c off vs, n, false, m⟩) := by
  simp only [put, Option.bind_some]
  rw [if_pos ⟨trivial, h.1, trivial, h.2.1, h.2.2.1, h.2.2.2⟩]
theorem st_one (hs : sz P T = some 1) (A off n : Nat) (x : Value) (hx : oneC x = true) : stA P H p T (.pointer (some ⟨A, off, some n⟩)) x = put H p A off n H[A]? [x] := by
  have : cellsV x = some #[x] := by cases x <;> first | (simp [oneC] at hx; done) | (simp only [cellsV]; rw [if_pos hx])
  simp only [stA, this, Option.bind_some, hs, List.size_toArray, List.length_cons, List.length_nil, if_true, wr, put, Nat.zero_add]
theorem st_agg {s : Nat} (hs : sz P T = some s) (A off n : Nat) (cs : Array Value) (hx : cs.toList.all oneC = true) (hl : cs.size = s) : stA P H p T (.pointer (some ⟨A, off, some n⟩)) (.agg cs) = put H p A off n H[A]? cs.toList := by
  simp only [stA, cellsV, hx, if_true, Option.bind_some, hs, hl, wr, put]
  simp only [Array.length_toList, hl]
theorem putAll_nil (c : Array Value) (o : Nat) : putAll c o [] = c := (rfl)
theorem putAll_cons (c : Array Value) (o : Nat) (v : Value) (vs : List Value) : putAll c o (v :: vs) = putAll (c.setIfInBounds o v) (o + 1) vs := (rfl)
theorem fa_of {fs : Array Go.Field} {k : Nat} {f : Nat} {fd : Go.Field} (hu : P.underlying T = some (.struct fs)) (hf : fs[f]? = some fd) (hs : sz P fd.type = some (k + 1)) (A off n : Nat) :
    fieldA P T (.pointer (some ⟨A, off, some n⟩)) f = some (.pointer (some ⟨A, off + fd.offset, some n⟩)) := by
  simp only [fieldA, hu, hf, Option.bind_some, hs]
  rw [if_neg]
  simp
theorem fd_one {fs : Array Go.Field} {f : Nat} {fd : Go.Field} (hu : P.underlying T = some (.struct fs)) (hf : fs[f]? = some fd) (hd : (P.underlying fd.type).isSome = true) (ha : isAggD P fd.type = false) (cs : Array Value) :
    fldV P T (.agg cs) f = cs[fd.offset]? := by
  simp only [fldV, hu, hf, Option.bind_some, partV, hd, if_true, ha, Bool.false_eq_true, if_false]
theorem fd_agg {fs : Array Go.Field} {f s : Nat} {fd : Go.Field} (hu : P.underlying T = some (.struct fs)) (hf : fs[f]? = some fd) (hd : (P.underlying fd.type).isSome = true) (ha : isAggD P fd.type = true) (hs : sz P fd.type = some s) (cs : Array Value) :
    fldV P T (.agg cs) f = some (.agg (cs.extract fd.offset (fd.offset + s))) := by
  simp only [fldV, hu, hf, Option.bind_some, partV, hd, if_true, ha, hs, Option.map_some]
theorem cells_one {x : Value} (hx : oneC x = true) : cellsV x = some #[x] := by cases x <;> first | (simp [oneC] at hx; done) | (simp only [cellsV]; rw [if_pos hx])
theorem cells_agg {cs : Array Value} (h : cs.toList.all oneC = true) : cellsV (.agg cs) = some cs := by simp only [cellsV, h, if_true]
theorem oneC_int (k : IntKind) (n : Int) : oneC (.int k n) = true := (rfl)
theorem oneC_bool (b : Bool) : oneC (.bool b) = true := (rfl)
theorem oneC_str (b : ByteArray) : oneC (.string b) = true := (rfl)
theorem oneC_ptr (b : Option Addr) : oneC (.pointer b) = true := (rfl)
theorem oneC_sl (b : Option Addr) (l c : Nat) : oneC (.slice b l c) = true := (rfl)
theorem oneC_func (b : Fn) (x y : Array Value) : oneC (.func b x y) = true := (rfl)
theorem oneC_iface (b : TypeId) (x : Value) : oneC (.iface b x) = true := (rfl)
theorem oneC_nil : oneC .nilIface = true := (rfl)

theorem next_more (A pos : Nat) (s : ByteArray) (fl : Nat) (m : List (Value × Value)) (T : TypeId) (hA : H[A]? = some ⟨2, T, #[.string s, .int .i64 (pos : Nat)], fl, false, m⟩) (hp : p ≤ A) (hlt : pos < s.size) :
    nextV p (.pointer (some ⟨A, 0, some 0⟩)) H = some (.tuple #[.bool true, .int .i64 (pos : Nat), .int .i32 (Utf8.decode s pos).1], H.set A ⟨2, T, #[.string s, .int .i64 ((pos + (Utf8.decode s pos).2 : Nat) : Int)], fl, false, m⟩) := by
  simp only [nextV, hA, Option.bind_some]
  rw [if_pos ⟨trivial, hp, trivial⟩]
  simp only [Int.toNat_natCast]
  rw [if_pos (by omega), if_pos hlt]
theorem next_done (A pos : Nat) (s : ByteArray) (fl : Nat) (m : List (Value × Value)) (T : TypeId) (hA : H[A]? = some ⟨2, T, #[.string s, .int .i64 (pos : Nat)], fl, false, m⟩) (hp : p ≤ A) (hlt : ¬ pos < s.size) :
    nextV p (.pointer (some ⟨A, 0, some 0⟩)) H = some (.tuple #[.bool false], H) := by
  simp only [nextV, hA, Option.bind_some]
  rw [if_pos ⟨trivial, hp, trivial⟩]
  simp only [Int.toNat_natCast]
  rw [if_pos (by omega), if_neg hlt]
theorem ext_tuple (vs : Array Value) (i : Nat) : extV (.tuple vs) i = vs[i]? := (rfl)

def callT (fn : Fn') (cl : FuncId → Nat) (dq : Bool) (p : Nat) (v : Value) (args : Array Value) (t : Nat → Value) (ds : List Deferred) (H : Heap) (dst : Option Tmp) : Option (Exit × St) := match v with
  | .func (.func g) first captured => if dq = true ∧ cl g ≠ 1 then none else stepF t ds dst (fn g (first ++ args ++ captured) p H)
  | _ => none
theorem ev_callT (x : Nat) (args : Array Operand) (tys : Array TypeId) (dst : Option Tmp) : evOp fn P cl dq p (.call ⟨.value (.tmp x), args, tys⟩) dst ⟨t, ds, H⟩ = callT fn cl dq p (t x) (args.map (St.eval ⟨t, ds, H⟩)) t ds H dst := by
  unfold evOp callT
  simp only [aexec, acall, dynC, eval_tmp, Bool.and_true]
  cases t x with
  | func f a b =>
    cases f with
    | func g =>
      simp only
      by_cases h : dq = true ∧ cl g ≠ 1
      · rw [if_pos h, if_pos h]; rfl
      · rw [if_neg h, if_neg h]
        simp only [Option.bind_some, stepF]
        congr 1
        funext q
        rcases q with ⟨_ | _ | _, H'⟩ <;> cases dst <;> rfl
    | _ => rfl
  | _ => rfl
theorem callT_f (g : FuncId) (a b xs : List Value) (dst : Option Tmp) : callT fn cl false p (.func (.func g) a.toArray b.toArray) xs.toArray t ds H dst = stepF t ds dst (fn g (a ++ xs ++ b).toArray p H) := by
  unfold callT
  simp
theorem callT_t (g : FuncId) (a b xs : List Value) (dst : Option Tmp) (h : cl g = 1) : callT fn cl true p (.func (.func g) a.toArray b.toArray) xs.toArray t ds H dst = stepF t ds dst (fn g (a ++ xs ++ b).toArray p H) := by
  unfold callT
  simp [h]
/-- A text that is gone through, from a place on. -/
def itB (s : List UInt8) (pos : Nat) : Blk := ⟨2, 0, #[str s, .int .i64 (pos : Nat)], 0, false, []⟩
def dec (s : List UInt8) (pos : Nat) : Nat × Nat := Utf8.decode ⟨s.toArray⟩ pos
def rangeV (P : Program) (T : TypeId) (v : Value) (H : Heap) : Option (Value × Heap) := match P.underlying T, v with
  | some .string, .string s => some (.pointer (some ⟨H.length, 0, some 0⟩), H ++ [⟨2, 0, #[.string s, .int .i64 0], 0, false, []⟩])
  | _, _ => none
theorem ev_rangeV (T : TypeId) (x : Operand) : evOp fn P cl dq p (.range T x) (some d) ⟨t, ds, H⟩ = stepVH t ds d (rangeV P T (St.eval ⟨t, ds, H⟩ x) H) := by
  refine evOp_vH ?_
  simp only [aexec, rangeV]
  generalize P.underlying T = u
  generalize St.eval ⟨t, ds, H⟩ x = v
  cases u with
  | none => rfl
  | some u => cases u <;> first | rfl | (cases v <;> rfl)
theorem range_str (hu : P.underlying T = some .string) (s : List UInt8) : rangeV P T (str s) H = some (.pointer (some ⟨H.length, 0, some 0⟩), H ++ [itB s 0]) := by
  simp only [rangeV, hu]
  rfl
def nextB (p A : Nat) (B : Option Blk) (H : Heap) : Option (Value × Heap) := match B with
  | some B => if B.k = 2 ∧ p ≤ A ∧ B.ro = false then match B.c.toList with
      | [.string s, .int .i64 pos] => if 0 ≤ pos then
          if pos.toNat < s.size then let cw := Utf8.decode s pos.toNat
            some (.tuple #[.bool true, .int .i64 pos.toNat, .int .i32 cw.1], H.set A { B with c := #[.string s, .int .i64 (pos.toNat + cw.2 : Nat)] })
          else some (.tuple #[.bool false], H)
        else none
      | _ => none
    else none
  | none => none
theorem next_nextB (A : Nat) : nextV p (.pointer (some ⟨A, 0, some 0⟩)) H = nextB p A H[A]? H := by
  simp only [nextV, nextB]
  cases H[A]? <;> rfl
theorem nextB_more (p A pos : Nat) (s : List UInt8) (h : p ≤ A ∧ pos < s.length) : nextB p A (some (itB s pos)) H = some (.tuple #[.bool true, .int .i64 (pos : Nat), .int .i32 (dec s pos).1], H.set A (itB s (pos + (dec s pos).2))) := by
  simp only [nextB, itB]
  rw [if_pos ⟨trivial, h.1, trivial⟩]
  simp only [Int.toNat_natCast]
  rw [if_pos (by omega)]
  exact if_pos h.2
theorem nextB_done (p A pos : Nat) (s : List UInt8) (h : p ≤ A ∧ ¬ pos < s.length) : nextB p A (some (itB s pos)) H = some (.tuple #[.bool false], H) := by
  simp only [nextB, itB]
  rw [if_pos ⟨trivial, h.1, trivial⟩]
  simp only [Int.toNat_natCast]
  rw [if_pos (by omega)]
  exact if_neg h.2

theorem finish_ret (rs : Array ResultVar) (H H' : Heap) (t : Nat → Value) : finish P false rs H (some (.ret, ⟨t, [], H'⟩)) = (resOf P rs ⟨t, [], H'⟩).bind fun v => some (.returned v, H') := by
  simp only [finish, Option.bind_some, Bool.false_and, Bool.false_eq_true, if_false]
  cases resOf P rs ⟨t, [], H'⟩ <;> rfl
theorem finish_normal (rs : Array ResultVar) (H H' : Heap) (t : Nat → Value) : finish P false rs H (some (.normal, ⟨t, [], H'⟩)) = (resOf P rs ⟨t, [], H'⟩).bind fun v => some (.returned v, H') := by
  simp only [finish, Option.bind_some, Bool.false_and, Bool.false_eq_true, if_false]
  cases resOf P rs ⟨t, [], H'⟩ <;> rfl
theorem resOf_one (i : Nat) (t : Nat → Value) (ds : List Deferred) (H : Heap) : resOf P #[.tmp i] ⟨t, ds, H⟩ = some (t i) := (rfl)
theorem resOf_two (i j : Nat) (t : Nat → Value) (ds : List Deferred) (H : Heap) : resOf P #[.tmp i, .tmp j] ⟨t, ds, H⟩ = some (.tuple #[t i, t j]) := (rfl)
theorem resOf_three (i j k : Nat) (t : Nat → Value) (ds : List Deferred) (H : Heap) : resOf P #[.tmp i, .tmp j, .tmp k] ⟨t, ds, H⟩ = some (.tuple #[t i, t j, t k]) := (rfl)
theorem purely_ret (H H' : Heap) (v : Value) (h : ground v = true) : purely H (some (.returned v, H')) = some (.returned v, H) := by simp only [purely, Option.bind_some, h, if_true]
theorem pickV_t (x y : Value) : pickV (.bool true) x y = some x := (rfl)
theorem pickV_f (x y : Value) : pickV (.bool false) x y = some y := (rfl)
theorem g_bool (b : Bool) : ground (.bool b) = true := (rfl)
theorem g_int (k : IntKind) (b : Int) : ground (.int k b) = true := (rfl)
theorem g_str (b : ByteArray) : ground (.string b) = true := (rfl)
theorem g_agg (cs : Array Value) : ground (.agg cs) = cs.toList.all flat := by simp only [ground, flat1, Array.all_toList]
theorem g_tuple (cs : Array Value) : ground (.tuple cs) = cs.toList.all flat1 := by simp only [ground, Array.all_toList]
theorem f1_int (k : IntKind) (b : Int) : flat1 (.int k b) = true := (rfl)
theorem f1_str (b : ByteArray) : flat1 (.string b) = true := (rfl)
theorem f1_bool (b : Bool) : flat1 (.bool b) = true := (rfl)
theorem f1_agg (cs : Array Value) : flat1 (.agg cs) = cs.toList.all flat := by simp only [flat1, Array.all_toList]
theorem f_int (k : IntKind) (b : Int) : flat (.int k b) = true := (rfl)
theorem f_str (b : ByteArray) : flat (.string b) = true := (rfl)
theorem f_bool (b : Bool) : flat (.bool b) = true := (rfl)

attribute [go_sem] opThen_eq E_seq E_region E_draw E_ret E_skip E_exit E_label E_cond' E_block List.toList_toArray evOps_plain evOps_guard evOps_nil ev_move ev_assign ev_bin ev_pick ev_un ev_build ev_load ev_store ev_convert ev_iface ev_slice ev_fieldAddr ev_field ev_indexAddr ev_index ev_extract ev_box ev_call ev_nilCheck ev_makeFunc ev_next ev_makeSlice ev_buildSlice
  eval_tmp eval_const eval_func eval_global andThen_normal andThen_ret andThen_exit blockOut_exit blockOut_normal blockOut_ret onlyNormal_some isC_tmp isC_const Bool.or_false Bool.or_true Bool.true_or Bool.false_or upd_at selU_true selU_false ev_lenW ev_appW Nat.reduceBEq getD_0 getD_s getD_nil
attribute [go_sem] bin_geq bin_leq bin_lss bin_gtr bin_eql bin_neq str_eql str_neq stepV_some stepVH_some stepU_some stepF_some stepF_none stepB_some
  List.getElem?_toArray List.getElem?_cons_zero List.getElem?_cons_succ List.getElem?_nil guardV_dst guardB_bool guardB_undef ifWant_some condR_bool pickB_true pickB_false beq_true beq_false decide_eq_true_eq decide_true decide_false un_not Bool.not_eq_true' decide_eq_false_iff_not Bool.not_true Bool.not_false Bool.true_and Bool.false_and Bool.and_true Bool.and_false
attribute [go_sem] Bool.not_eq_false' Bool.and_eq_true Bool.or_eq_true Bool.or_eq_false_iff
attribute [go_sem] andThen_goto blockOut_goto E_goto ev_callT callT_f callT_t List.append_nil Int.cast_ofNat_Int Int.reduceLT Int.reduceLE Int.reduceAdd Int.reduceSub Int.reduceMul Int.reduceNeg Int.reduceToNat Int.toNat_natCast Nat.reduceSub Nat.reduceMul Int.reduceEq Nat.reduceLT not_false_eq_true not_true_eq_false Nat.le_refl ev_rangeV next_nextB nextB_more nextB_done
attribute [go_sem] finish_ret finish_normal resOf_one resOf_two resOf_three Option.map_some Option.bind_some Option.map_none purely_ret pickV_t pickV_f g_bool g_int g_str g_agg g_tuple f1_int f1_str f1_bool f1_agg f_int f_str f_bool
  get1_some getN_some put_some putAll_nil putAll_cons cells_one cells_agg oneC_int oneC_bool oneC_str oneC_ptr oneC_sl oneC_func oneC_iface oneC_nil cel List.length_nil List.length_cons List.nil_append List.cons_append List.map_toArray List.map_cons List.map_nil List.size_toArray List.extract_toArray List.setIfInBounds_toArray List.set_cons_zero List.set_cons_succ
  Nat.reduceAdd Nat.reduceLeDiff Nat.zero_le and_self true_and and_true List.all_toArray List.all_cons List.all_nil ext_tuple List.getElem?_set_self List.length_append Nat.reduceEqDiff if_true if_false eq_self Nat.zero_add Bool.false_eq_true

end Go.AM

/-! Summaries of library functions; and a law, called at the world's begin. -/
namespace Go.AM
open Go
open Go.RowKit (Below)
variable {P : Program} {N0 : Nat} {W0 : World} {cl : FuncId → Nat} {X : Exts}

def noMp : Mp := fun _ _ => none
theorem noMp_le (M : Mp) : Mle noMp M := fun _ _ _ e => by cases e
theorem vrl_ground {M : Mp} {xs ys : List Value} (h : xs.all ground = true) : VRL M xs ys ↔ ys = xs := by
  rw [List.all_eq_true] at h
  constructor
  · intro hv
    obtain ⟨hl, hi⟩ := vrl_iff.1 hv
    apply List.ext_getElem? 
    intro i
    by_cases hlt : i < xs.length
    · have h1 := List.getElem?_eq_getElem hlt
      have h2 := List.getElem?_eq_getElem (l := ys) (i := i) (by omega)
      have := (vr_ground (h _ (List.getElem_mem hlt))).1 (hi i _ _ h1 h2)
      rw [h1, h2, this]
    · rw [List.getElem?_eq_none (by omega), List.getElem?_eq_none (by omega)]
  · rintro rfl
    exact vrl_iff.2 ⟨rfl, fun i x y hx hy => by
      rw [hx] at hy; cases hy
      exact (vr_ground (h _ (List.mem_of_getElem? hx))).2 rfl⟩
theorem HR.empty {w : World} (h : Below N0 W0 w) (hn : N0 ≤ w.heap.size) : HR N0 W0 noMp [] w :=
  ⟨h, hn, fun A n b base ext e => (by cases e), fun A n A' n' b base ext base' ext' e _ _ => (by cases e)⟩

def exG (g : Array Value → Option Value) : Array Value → Nat → Heap → Option (Ending × Heap) := fun args _ H => (g args).map fun v => (.returned v, H)

/-- A function of plain values, that leaves all that was as it was. -/
theorem ext_plain {f : FuncId} {g : Array Value → Option Value} (hT : Taken P f) (hg : ∀ args v, g args = some v → args.toList.all ground = true ∧ ∀ w, Below N0 W0 w → N0 ≤ w.heap.size →
    Calls P f args w fun e w' => ∃ v', e = .returned v' ∧ VR noMp v v' ∧ Below w.heap.size w w') : ExtSound P N0 W0 f (exG g) := by
  refine ⟨hT, fun args prot H e H' h hp => ?_⟩
  unfold exG at h
  obtain ⟨v, hv, h⟩ := Option.map_eq_some_iff.1 h
  cases h
  obtain ⟨h1, h2⟩ := hg args v hv
  refine ⟨.refl _ _, fun M w args' hH hvl => ?_⟩
  have : args' = args := Array.ext' ((vrl_ground h1).1 hvl)
  subst this
  refine Calls.mono (h2 w hH.below hH.n0) ?_
  rintro e w' ⟨v', rfl, k1, k2⟩
  exact ⟨M, .refl _, hH.world k2, vr_mono (noMp_le M) k1, ⟨fun _ _ _ => rfl, fun B0 hB hM => ⟨k2.mono hB, hM⟩⟩⟩

/-- The same, of a whole system's answer. -/
theorem plain_calls (G : Good P N0 W0 cl X) {f : FuncId} {args : Array Value} {v : Value} {H' : Heap} (h : limF P cl X f args 0 [] = some (.returned v, H')) (hg : args.toList.all ground = true) (hv : ground v = true) {w : World} (hb : Below N0 W0 w) (hn : N0 ≤ w.heap.size) :
    Calls P f args w fun e w' => e = .returned v ∧ Below w.heap.size w w' := by
  refine Calls.mono (F_sound G h (Nat.le_refl _) (HR.empty hb hn) ((vrl_ground hg).2 rfl)) ?_
  rintro e w' ⟨M', _, h2, h3, h4⟩
  refine ⟨?_, ?_⟩
  · cases e with
    | returned v' => rw [(vr_ground hv).1 h3]
    | _ => exact h3.elim
  · exact (h4.blk w.heap.size (Nat.le_refl _) fun A n b base ext _ e => (by cases e)).1

end Go.AM

/-! '==' of structs of plain fields. -/
namespace Go.AM
open Go
variable {P : Program} {T : TypeId}

def fieldsEq (P : Program) (d : Nat) (xs ys : Array Value) : List Go.Field → Option Bool
  | [] => some true
  | f :: fs => if f.name ≠ "_" then (partV P f.type xs f.offset).bind fun a => (partV P f.type ys f.offset).bind fun b => (pureRun P (Op.equalIn d f.type a b)).bind fun e => if e = true then fieldsEq P d xs ys fs else some false
    else fieldsEq P d xs ys fs

theorem eq_struct {fs : Array Go.Field} (hu : P.underlying T = some (.struct fs)) (hs : P.stoodInHeld T = false) (d : Nat) (xs ys : Array Value) :
    pureRun P (Op.equalIn (d + 1) T (.agg xs) (.agg ys)) = fieldsEq P d xs ys fs.toList := by
  unfold Op.equalIn
  rw [pureRun_bind, pureRun_underlying, hu]
  simp only [Option.bind_some]
  rw [pureRun_bind]
  have hp : pureRun P program = some P := rfl
  rw [hp]
  simp only [Option.bind_some, hs, Bool.false_eq_true, if_false]
  rw [← Array.forIn_toList, pureRun_bind]
  have key : ∀ (l : List Go.Field), (pureRun P (forIn (m := Sem) l ((none, ()) : Option Bool × Unit) fun f __s =>
            if f.name ≠ "_" then do
              let __do_lift ← part f.type xs f.offset
              let __do_lift_1 ← part f.type ys f.offset
              let __do_lift ← Op.equalIn d f.type __do_lift __do_lift_1
              if (!__do_lift) = true then pure (ForInStep.done (some false, ())) else pure (ForInStep.yield (none, ()))
            else pure (ForInStep.yield (none, ())))).map (fun r => match r.1 with | some r => r | none => true) = fieldsEq P d xs ys l := by
    intro l
    induction l with
    | nil => rfl
    | cons f l ih =>
      rw [List.forIn_cons, fieldsEq, pureRun_bind]
      by_cases hn : f.name ≠ "_"
      · rw [if_pos hn, if_pos hn]
        simp only [pureRun_bind, pureRun_part]
        cases partV P f.type xs f.offset with
        | none => rfl
        | some a =>
          cases partV P f.type ys f.offset with
          | none => rfl
          | some b =>
            simp only [Option.bind_some]
            cases pureRun P (Op.equalIn d f.type a b) with
            | none => rfl
            | some e =>
              cases e
              · rfl
              · simp only [Option.bind_some]
                exact ih
      · rw [if_neg hn, if_neg hn]
        exact ih
  rw [← key fs.toList]
  cases pureRun P (forIn (m := Sem) fs.toList _ _) with
  | none => rfl
  | some r => rcases r with ⟨_ | r, _⟩ <;> rfl
theorem eqIn_string (hu : P.underlying T = some .string) (d : Nat) (a b : List UInt8) : pureRun P (Op.equalIn (d + 1) T (str a) (str b)) = some (decide (a = b)) := by
  unfold Op.equalIn
  rw [pureRun_bind, pureRun_underlying, hu]
  show some ((ByteArray.mk a.toArray) == (ByteArray.mk b.toArray)) = _
  congr 1
  rw [Bool.eq_iff_iff]
  show (a.toArray == b.toArray) = true ↔ _
  simp
theorem eqIn_int {k0 : IntKind} (hu : P.underlying T = some (.int k0)) (d : Nat) (k : IntKind) (a b : Int) : pureRun P (Op.equalIn (d + 1) T (.int k a) (.int k b)) = some (decide (a = b)) := by
  unfold Op.equalIn
  rw [pureRun_bind, pureRun_underlying, hu]
  simp only [Option.bind_some, if_true]
  show some (a == b) = _
  rfl
theorem eqIn_bool (hu : P.underlying T = some .bool) (d : Nat) (a b : Bool) : pureRun P (Op.equalIn (d + 1) T (.bool a) (.bool b)) = some (a == b) := by
  unfold Op.equalIn
  rw [pureRun_bind, pureRun_underlying, hu]
  rfl
theorem bin_eqAgg {c : Bool} {xs ys : Array Value} {b : Bool} (hg : P.eqGuardType P.depth T = false) (hx : ground (.agg xs) = true) (hy : ground (.agg ys) = true) (h : pureRun P (Op.equalIn (9999 + 1) T (.agg xs) (.agg ys)) = some b) :
    binV P c .eql T (.agg xs) (.agg ys) = some (.bool b) ∧ binV P c .neq T (.agg xs) (.agg ys) = some (.bool (!b)) := by
  have hgd : ∀ op, op = .eql ∨ op = .neq → pureRun P (eqGuard op T (if c = true then .const .nilIface else .tmp 0) (.tmp 0) (.agg xs) (.agg ys)) = some () := by
    rintro op (rfl | rfl)
    · unfold eqGuard
      simp only [Bool.not_true, Bool.false_eq_true, if_false, pureRun_bind, pureRun_program, Option.bind_some, hg, Bool.not_false, if_true]
      rfl
    · unfold eqGuard
      simp only [Bool.not_true, Bool.false_eq_true, if_false, pureRun_bind, pureRun_program, Option.bind_some, hg, Bool.not_false, if_true]
      rfl
  constructor
  · unfold binV
    rw [if_pos (by rw [hx, hy]; rfl)]
    unfold binG
    rw [pureRun_bind, hgd _ (.inl rfl)]
    simp only [Option.bind_some, binOp, pureRun_bind, Op.equal]
    rw [show Op.maxDepth = 9999 + 1 from rfl, h]
    rfl
  · unfold binV
    rw [if_pos (by rw [hx, hy]; rfl)]
    unfold binG
    rw [pureRun_bind, hgd _ (.inr rfl)]
    simp only [Option.bind_some, binOp, pureRun_bind, Op.equal]
    rw [show Op.maxDepth = 9999 + 1 from rfl, h]
    rfl
end Go.AM

/-! Structs that are built. -/
namespace Go.AM
open Go
variable {P : Program} {T : TypeId}
def plOf (l : List (Nat × Nat)) : Nat → Option (Nat × Nat) := fun i => l[i]?
theorem plOf_at (l : List (Nat × Nat)) (i : Nat) : plOf l i = l[i]? := (rfl)
theorem places_of {fs : Array Go.Field} {l : List (Nat × Nat)} (hu : P.underlying T = some (.struct fs)) (hm : pureRun P (fs.mapM fun f => do pure (f.offset, ← sizeOf f.type)) = some l.toArray) : placesV P T = some (plOf l) := by
  simp only [placesV, hu, hm, Option.map_some]
  congr 1
  funext i
  simp [plOf]
def fillA (pl : Nat → Option (Nat × Nat)) (cs : Array Value) (ps : List (Nat × Value)) : Option (Array Value) := Instr.fill pl cs ps
def bldF (pl : Nat → Option (Nat × Nat)) (cs : Array Value) (ps : List (Nat × Value)) : Option Value := (fillA pl cs ps).map .agg
theorem bld_struct {z : Value} {l : List (Nat × Nat)} (hz : zer P T = some z) (hp : placesV P T = some (plOf l)) (ps : List (Nat × Value)) (h : ps.all (fun p => (cellsV p.2).isSome) = true) : bldV P T ps.toArray = bldF (plOf l) z.cells ps := by
  unfold bldV
  rw [if_pos h, hz, hp]
  rfl
def fillS (q : Option (Nat × Nat)) (pl : Nat → Option (Nat × Nat)) (cs : Array Value) (v : Value) (rest : List (Nat × Value)) : Option (Array Value) := match q with
  | none => none
  | some (off, size) => if v.cells.size ≠ size || off + v.cells.size > cs.size then none
      else Instr.fill pl (v.cells.zipIdx.foldl (fun cs (c, j) => cs.setIfInBounds (off + j) c) cs) rest
theorem fill_cons (pl : Nat → Option (Nat × Nat)) (cs : Array Value) (i : Nat) (v : Value) (rest : List (Nat × Value)) : fillA pl cs ((i, v) :: rest) = fillS (pl i) pl cs v rest := by
  unfold fillA
  rw [Instr.fill]
  unfold fillS
  cases pl i with
  | none => rfl
  | some q => rfl
theorem fill_nil (pl : Nat → Option (Nat × Nat)) (cs : Array Value) : fillA pl cs [] = some cs := (rfl)
theorem cells_of_one {v : Value} (h : oneC v = true) : v.cells = #[v] := by cases v <;> first | rfl | (simp [oneC] at h)
theorem fillS_one (off : Nat) (pl : Nat → Option (Nat × Nat)) (cs : Array Value) (v : Value) (rest : List (Nat × Value)) (h : oneC v = true ∧ off + 1 ≤ cs.size) : fillS (some (off, 1)) pl cs v rest = fillA pl (cs.setIfInBounds off v) rest := by
  unfold fillS fillA
  simp only [cells_of_one h.1]
  rw [if_neg]
  · rfl
  · have := h.2
    simp
    omega
theorem foldl_putAll : ∀ (vs : List Value) (k off : Nat) (cs : Array Value), (vs.zipIdx k).foldl (fun (cs : Array Value) (x : Value × Nat) => cs.setIfInBounds (off + x.2) x.1) cs = putAll cs (off + k) vs
  | [], _, _, _ => rfl
  | v :: vs, k, off, cs => by
    rw [List.zipIdx_cons, List.foldl_cons, foldl_putAll vs (k + 1)]
    rfl
theorem fillS_agg (off s : Nat) (pl : Nat → Option (Nat × Nat)) (cs vs : Array Value) (rest : List (Nat × Value)) (h : vs.size = s ∧ off + s ≤ cs.size) : fillS (some (off, s)) pl cs (.agg vs) rest = fillA pl (putAll cs off vs.toList) rest := by
  unfold fillA
  have key : fillS (some (off, s)) pl cs (.agg vs) rest = if (decide (vs.size ≠ s) || decide (off + vs.size > cs.size)) = true then none else Instr.fill pl (vs.zipIdx.foldl (fun cs (c, j) => cs.setIfInBounds (off + j) c) cs) rest := rfl
  rw [key, if_neg]
  · congr 1
    have := foldl_putAll vs.toList 0 off cs
    rw [Nat.add_zero] at this
    rw [← this, ← Array.foldl_toList, Array.toList_zipIdx]
  · have := h.2
    have := h.1
    simp
    omega
theorem bldF_some (pl : Nat → Option (Nat × Nat)) (cs : Array Value) (ps : List (Nat × Value)) : bldF pl cs ps = (fillA pl cs ps).bind fun c => some (.agg c) := by
  unfold bldF
  cases fillA pl cs ps <;> rfl
attribute [go_sem] plOf_at bldF_some fill_cons fill_nil fillS_one fillS_agg
end Go.AM

/-! Slices, as rules. -/
namespace Go.AM
open Go
variable {P : Program} {T e : TypeId} {H : Heap}
theorem ia_sl {s : Nat} (hu : P.underlying T = some (.slice e)) (hs : sz P e = some s) (A off n len : Nat) (i : Int) (h : 0 ≤ i ∧ i < len) :
    idxA P T (.slice (some ⟨A, off, some n⟩) len s) (.int .i64 i) = some (.pointer (some ⟨A, off + i.toNat * s, some n⟩)) := by
  simp only [idxA, hu, hs, Option.bind_some]
  rw [if_pos ⟨h.1, h.2, trivial⟩]
theorem slh_sl {s : Nat} (hu : P.underlying T = some (.slice e)) (hs : sz P e = some s) (A off n len : Nat) (hi : Int) (h : 0 ≤ hi ∧ hi ≤ len) :
    sliceV P T (.slice (some ⟨A, off, some n⟩) len s) none (some (.int .i64 hi)) none = some (.slice (some ⟨A, off, some n⟩) hi.toNat s) := by
  simp only [sliceV, hu, hs, Option.bind_some, highV]
  rw [if_pos h]
  simp only [Option.bind_some, lowV, Option.isSome_none, Bool.false_eq_true, false_implies, and_true, Nat.zero_mul, Nat.add_zero, Nat.sub_zero]
  rw [if_pos (Nat.zero_le _)]
theorem mk_sl {s b : Nat} {z : Value} (hu : P.underlying T = some (.slice e)) (hs : sz P e = some 1) (hb : bts P e = some b) (hz : zer P e = some z) (h1 : oneC z = true) (n : Nat) (h : n ≤ 2 ^ 47 ∧ b * n ≤ 2 ^ 47) :
    mkSl P T (.int .i64 (n : Nat)) (.int .i64 (n : Nat)) H = some (.slice (some ⟨H.length, 0, some n⟩) n 1, H ++ [⟨0, e, (List.replicate n z).toArray, 0, false, []⟩]) := by
  simp only [mkSl, hu, hs, hb, hz, Option.bind_some, cells_one h1]
  rw [if_pos ⟨by omega, Int.le_refl _, by have := h.1; omega, by have := h.2; exact_mod_cast this, rfl⟩]
  simp only [Int.toNat_natCast, Nat.mul_one, cel, zeros]
  have e1 : ∀ k : Nat, (List.replicate k [z]).flatten = List.replicate k z := by
    intro k
    induction k with
    | zero => rfl
    | succ k ih => rw [List.replicate_succ, List.flatten_cons, ih]; rfl
  rw [e1]
theorem putAll_one (l : List Value) (off : Nat) (v : Value) : putAll l.toArray off [v] = (l.set off v).toArray := by
  rw [putAll, putAll, List.setIfInBounds_toArray]
theorem len_sl {s : Nat} (hu : P.underlying T = some (.slice e)) (a : Addr) (n : Nat) : lenW P T H (.slice (some a) n s) = some (.int .i64 n) := by
  simp only [lenW, lenOkT, hu, if_true, lenV]
end Go.AM
