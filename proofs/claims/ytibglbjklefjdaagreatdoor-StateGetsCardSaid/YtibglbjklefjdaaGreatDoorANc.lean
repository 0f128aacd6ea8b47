/-
  The abstract machine's operations and its drawn regions are simulated by the model. No condition.
-/
import Derived.Test.YtibglbjklefjdaaGreatDoorANb
import Derived.Orders
set_option linter.all false
set_option linter.unusedSimpArgs false
set_option linter.unusedVariables false
set_option linter.unusedSectionVars false
namespace Go.AM
open Go
open Go.RowKit (Below)
variable {P : Program} {M : Mp} {H H' : Heap} {w : World} {N0 : Nat} {W0 : World}
def DR (M : Mp) (d d' : Deferred) : Prop := ∃ fn cap cap', d.target = .fn fn cap ∧ d'.target = .fn fn cap' ∧ VRL M cap.toList cap'.toList ∧ VRL M d.args.toList d'.args.toList
def SimX (prot : Nat) (N0 : Nat) (W0 : World) (P : Program) (M : Mp) (H : Heap) (w : World) (s : Sem Next) (q : Prop) (r : Res) (H' : Heap) : Prop := match r with
  | .ok (.value v) => ∃ w' M' v', s.run P w = .ok (.value v') w' ∧ Mle M M' ∧ HR N0 W0 M' H' w' ∧ VR M' v v' ∧ (q → Ext H M M' w w') ∧ (prot ≤ H.length → Kp prot M M' w w')
  | .ok .skip => ∃ w' M', s.run P w = .ok .skip w' ∧ Mle M M' ∧ HR N0 W0 M' H' w' ∧ ¬ q ∧ Kp prot M M' w w'
  | .ok (.enter f args) => ∃ args', s.run P w = .ok (.enter f args') w ∧ VRL M args.toList args'.toList ∧ H' = H
  | .ok (.defer d) => ∃ d', s.run P w = .ok (.defer d') w ∧ DR M d d' ∧ H' = H ∧ ¬ q
  | .error v => ∃ v', s.run P w = .halt (.panic v') w ∧ VR M v v' ∧ H' = H ∧ ¬ q
  | _ => False
theorem SimV.x {prot : Nat} {s : Sem Value} {q : Prop} {v : Value} (h : SimV N0 W0 P M H w s True v H') : SimX prot N0 W0 P M H w (s.bind fun v => .pure (Next.value v)) q (.ok (Next.value v)) H' := by
  obtain ⟨w', M', v', h1, h2, h3, h4, h5⟩ := h
  refine ⟨w', M', v', ?_, h2, h3, h4, fun _ => h5 trivial, (h5 trivial).kp⟩
  show (s >>= fun v => Pure.pure (Next.value v) : Sem Next).run P w = _
  simp only [Sem.run_bind, h1, Result.andThen_ok, Sem.run_pure]
theorem SimK.x {prot : Nat} {s : Sem Value} {q : Prop} (hq : ¬ q) {v : Value} (h : SimK prot N0 W0 P M H w s v H') : SimX prot N0 W0 P M H w (s.bind fun v => .pure (Next.value v)) q (.ok (Next.value v)) H' := by
  obtain ⟨w', M', v', h1, h2, h3, h4, h5⟩ := h
  refine ⟨w', M', v', ?_, h2, h3, h4, fun hh => (hq hh).elim, h5⟩
  show (s >>= fun v => Pure.pure (Next.value v) : Sem Next).run P w = _
  simp only [Sem.run_bind, h1, Result.andThen_ok, Sem.run_pure]
theorem SimU.x {prot : Nat} {s : Sem Unit} {q : Prop} (hq : ¬ q) (h : SimU prot N0 W0 P M w s H') : SimX prot N0 W0 P M H w (s.bind fun _ => .pure Next.skip) q (.ok Next.skip) H' := by
  obtain ⟨w', M', h1, h2, h3, h4⟩ := h
  refine ⟨w', M', ?_, h2, h3, hq, h4⟩
  show (s >>= fun _ => Pure.pure Next.skip : Sem Next).run P w = _
  simp only [Sem.run_bind, h1, Result.andThen_ok, Sem.run_pure]
theorem vR_some {x : Option Value} {r : Res} (h : vR H x = some (r, H')) : ∃ v, x = some v ∧ r = .ok (.value v) ∧ H' = H := by
  unfold vR at h
  obtain ⟨v, hv, h⟩ := Option.map_eq_some_iff.1 h
  cases h; exact ⟨v, hv, rfl, rfl⟩
theorem vH_some {x : Option (Value × Heap)} {r : Res} (h : vH x = some (r, H')) : ∃ v, x = some (v, H') ∧ r = .ok (.value v) := by
  unfold vH at h
  obtain ⟨v, hv, h⟩ := Option.map_eq_some_iff.1 h
  obtain ⟨v, H2⟩ := v
  cases h; exact ⟨v, hv, rfl⟩
theorem uH_some {x : Option Heap} {r : Res} (h : uH x = some (r, H')) : x = some H' ∧ r = .ok .skip := by
  unfold uH at h
  obtain ⟨v, hv, h⟩ := Option.map_eq_some_iff.1 h
  cases h; exact ⟨hv, rfl⟩
theorem pureX {prot : Nat} (hH : HR N0 W0 M H w) {s : Sem Value} {q : Prop} {v : Value} (h : ∃ v', s.run P w = .ok v' w ∧ VR M v v') : SimX prot N0 W0 P M H w (s.bind fun v => .pure (Next.value v)) q (.ok (Next.value v)) H := (SimV.pure hH h).x
theorem ov_map {ρ ρ' : Operand → Value} {x : Option Operand} (h : ∀ y ∈ x.toList, VR M (ρ y) (ρ' y)) : OV M (x.map ρ) (x.map ρ') := by
  cases x with
  | none => trivial
  | some y => exact h y (by simp)
theorem vrl_map {ρ ρ' : Operand → Value} : ∀ {xs : List Operand}, (∀ x ∈ xs, VR M (ρ x) (ρ' x)) → VRL M (xs.map ρ) (xs.map ρ')
  | [], _ => vrl_nil.2 rfl
  | x :: xs, h => vrl_cons2.2 ⟨h x (by simp), vrl_map fun y hy => h y (by simp [hy])⟩
theorem len_sim (hH : HR N0 W0 M H w) {t ty : TypeId} {x y v : Value} (hok : lenOkT P t x = true) (h : lenV H x = some v) (hx : VR M x y) : ∃ v', (Builtin.len_ #[t] ty #[y]).run P w = .ok v' w ∧ VR M v v' := by
  unfold lenOkT at hok
  split at hok
  · rename_i s hu
    cases (vr_flat rfl).1 hx
    cases h
    refine ⟨_, ?_, flat_cases rfl⟩
    unfold Builtin.len_
    simp only [List.getElem?_toArray, List.getElem?_cons_zero, Sem.run_bind, run_u hu, Result.andThen_ok]
    rfl
  · rename_i e a l c hu
    cases a with
    | none =>
      cases (vr_flat rfl).1 hx
      have : l = 0 ∧ v = .int .i64 0 := by
        unfold lenV at h
        split at h
        · rename_i he; cases he; cases h; exact ⟨rfl, rfl⟩
        · rename_i he; cases he
        · rename_i he; cases he
        · rename_i he; cases he
        · rename_i he; cases he
        · cases h
      obtain ⟨rfl, rfl⟩ := this
      refine ⟨_, ?_, flat_cases rfl⟩
      unfold Builtin.len_
      simp only [List.getElem?_toArray, List.getElem?_cons_zero, Sem.run_bind, run_u hu, Result.andThen_ok]
      rfl
    | some a =>
      obtain ⟨A, o, n⟩ := a
      cases n with
      | none => simp [VR, flat] at hx
      | some n =>
        obtain ⟨b, base, ext, o', cap, _, rfl, _⟩ := vr_sli.1 hx
        cases h
        refine ⟨_, ?_, flat_cases rfl⟩
        unfold Builtin.len_
        simp only [List.getElem?_toArray, List.getElem?_cons_zero, Sem.run_bind, run_u hu, Result.andThen_ok]
        rfl
  · rename_i k e r hu
    cases r with
    | none =>
      cases (vr_flat rfl).1 hx
      cases h
      refine ⟨_, ?_, flat_cases rfl⟩
      unfold Builtin.len_
      simp only [List.getElem?_toArray, List.getElem?_cons_zero, Sem.run_bind, run_u hu, Result.andThen_ok]
      rfl
    | some r =>
      obtain ⟨B, hB, h⟩ := Option.bind_eq_some_iff.1 h
      obtain ⟨b, base, ext, hmm, rfl⟩ := vr_map.1 hx
      obtain ⟨B1, hB1, he⟩ := hH.ent _ _ _ _ _ hmm
      rw [hB] at hB1; cases hB1
      split at h
      · rename_i hk
        cases h
        obtain ⟨_, _, _, es, cl, hw, hml⟩ := he.m hk
        refine ⟨_, ?_, flat_cases rfl⟩
        unfold Builtin.len_
        simp only [List.getElem?_toArray, List.getElem?_cons_zero, Sem.run_bind, run_u hu, Result.andThen_ok, getObj_run (P := P) hw (fun _ _ _ e => by cases e)]
        have := hml.1
        simp only [Array.length_toList] at this
        rw [this]
        rfl
      · cases h
  · cases hok
theorem flat_arr {xs ys : Array Value} (h : xs.all flat = true) (hv : VRL M xs.toList ys.toList) : ys = xs := by
  have : ys.toList = xs.toList := (vrl_flat (by simpa using h)).1 hv
  exact Array.ext' this
theorem builtin_sim (hH : HR N0 W0 M H w) {prot : Nat} {b : Builtin} {ats : Array TypeId} {ty : TypeId} {cs : Array Bool} {xs ys : Array Value} {r : Res} {q : Prop} (hq : q → b = .len ∨ b = .min ∨ b = .max ∨ (b = .append ∧ ∃ l, xs.toList = .slice none 0 0 :: l)) (h : abuiltin P prot b ats xs H = some (r, H')) (hv : VRL M xs.toList ys.toList) :
    SimX prot N0 W0 P M H w (builtin b ats ty cs ys) q r H' := by
  unfold abuiltin at h
  split at h
  · rename_i x t hxs hts
    split at h
    · rename_i hok
      obtain ⟨v, hv1, rfl, rfl⟩ := vR_some h
      rw [hxs] at hv
      obtain ⟨y, l, hy, hxy, hl⟩ := vrl_cons.1 hv
      rw [vrl_nil] at hl; subst hl
      obtain rfl : ys = #[y] := Array.ext' hy
      obtain rfl : ats = #[t] := Array.ext' hts
      exact pureX hH (len_sim hH hok hv1 hxy)
    · cases h
  · split at h
    · rename_i hf
      obtain ⟨v, hv1, rfl, rfl⟩ := vR_some h
      obtain ⟨u, hu, hv1⟩ := Option.bind_eq_some_iff.1 hv1
      split at hv1
      · rename_i huf
        cases hv1
        rw [flat_arr hf hv]
        exact pureX hH ⟨_, run_of_pure hu, flat_cases huf⟩
      · cases hv1
    · cases h
  · split at h
    · rename_i hf
      obtain ⟨v, hv1, rfl, rfl⟩ := vR_some h
      obtain ⟨u, hu, hv1⟩ := Option.bind_eq_some_iff.1 hv1
      split at hv1
      · rename_i huf
        cases hv1
        rw [flat_arr hf hv]
        exact pureX hH ⟨_, run_of_pure hu, flat_cases huf⟩
      · cases hv1
    · cases h
  · rename_i s x st xt hxs hts
    split at h
    · rename_i hok
      obtain ⟨v, hv1, rfl⟩ := vH_some h
      rw [hxs] at hv
      obtain ⟨s', l, hy, hss, hl⟩ := vrl_cons.1 hv
      obtain ⟨x', l', rfl, hxx, hl⟩ := vrl_cons.1 hl
      rw [vrl_nil] at hl; subst hl
      obtain rfl : ys = #[s', x'] := Array.ext' hy
      obtain rfl : ats = #[st, xt] := Array.ext' hts
      have : ∃ du, P.underlying xt = some du ∧ ∀ k, du ≠ .int k := by
        unfold appT at hok
        split at hok
        · rename_i e hu; exact ⟨_, hu, fun k e => by cases e⟩
        · rename_i hu; exact ⟨_, hu, fun k e => by cases e⟩
        · cases hok
      obtain ⟨du, hdu, hni⟩ := this
      by_cases hs : s = .slice none 0 0
      · subst hs
        have hv2 : appendV P H.length st (.slice none 0 0) x H = some (v, H') := by
          rw [← hv1]
          unfold appendV
          rfl
        obtain ⟨w', M', v', g1, g2, g3, g4, g5⟩ := append_sim (ty := ty) hH hv2 hss hxx hdu hni
        have hv : SimV N0 W0 P M H w (Builtin.append_ #[st, xt] ty #[s', x']) True v H' := ⟨w', M', v', g1, g2, g3, g4, fun _ => (g5 (Nat.le_refl _)).ext fun _ _ _ e => hH.valid e⟩
        exact hv.x
      · exact (append_sim (ty := ty) hH hv1 hss hxx hdu hni).x fun hh => by
          rcases hq hh with e | e | e | ⟨_, l, e⟩
          · cases e
          · cases e
          · cases e
          · rw [hxs] at e; injection e with e _; exact hs e
    · cases h
  · rename_i d x dt xt hxs hts
    obtain ⟨v, hv1, rfl⟩ := vH_some h
    rw [hxs] at hv
    obtain ⟨s', l, hy, hss, hl⟩ := vrl_cons.1 hv
    obtain ⟨x', l', rfl, hxx, hl⟩ := vrl_cons.1 hl
    rw [vrl_nil] at hl; subst hl
    obtain rfl : ys = #[s', x'] := Array.ext' hy
    obtain rfl : ats = #[dt, xt] := Array.ext' hts
    exact (copy_sim (ty := ty) (xt := xt) hH hv1 hss hxx).x fun hh => by rcases hq hh with e | e | e | ⟨e, _⟩ <;> cases e
  · cases h
end Go.AM

namespace Go.AM
open Go
open Go.RowKit (Below)
variable {P : Program} {M : Mp} {H H' : Heap} {w : World} {N0 : Nat} {W0 : World}
theorem exec0 (hE : NLe M) {cl : FuncId → Nat} {dq : Bool} {prot : Nat} {ρ ρ' : Operand → Value} {o : Oper} {r : Res} (h0 : opClass cl o.op = 0) (hρ : ∀ x ∈ o.op.operands.toList, VR M (ρ x) (ρ' x))
    (h : aexec P cl dq prot ρ o.op H = some (r, H')) : ∃ v v', r = .ok (.value v) ∧ H' = H ∧ (execOp ρ' o).run P w = .ok (.value v') w ∧ VR M v v' ∧ ∀ H2, aexec P cl dq prot ρ o.op H2 = some (.ok (.value v), H2) := by
  obtain ⟨dst, op, type, pos, after, guard⟩ := o
  have fin : ∀ {x : Option Value} {s : Sem Value}, vR H x = some (r, H') → (∀ v, x = some v → ∃ v', s.run P w = .ok v' w ∧ VR M v v') →
      ∃ v v', r = .ok (.value v) ∧ H' = H ∧ (s >>= fun v => Pure.pure (Next.value v) : Sem Next).run P w = .ok (.value v') w ∧ VR M v v' ∧ ∀ H2 : Heap, vR H2 x = some (.ok (.value v), H2) := by
    intro x s h hs
    obtain ⟨v, hv, rfl, rfl⟩ := vR_some h
    obtain ⟨v', h1, h2⟩ := hs v hv
    exact ⟨v, v', rfl, rfl, by simp only [Sem.run_bind, h1, Result.andThen_ok, Sem.run_pure], h2, fun H2 => by rw [hv]; rfl⟩
  cases op <;> first | (cases h0; done) | skip
  case move x =>
    cases h
    exact ⟨_, _, rfl, rfl, rfl, hρ x (by simp [Op.operands]), fun _ => rfl⟩
  case assign x =>
    cases h
    exact ⟨_, _, rfl, rfl, rfl, hρ x (by simp [Op.operands]), fun _ => rfl⟩
  case pick c a b =>
    obtain ⟨v, hv, rfl, rfl⟩ := vR_some h
    obtain ⟨t, ht, h2⟩ := pick_sim hv (hρ c (by simp [Op.operands])) (hρ a (by simp [Op.operands])) (hρ b (by simp [Op.operands]))
    refine ⟨_, _, rfl, rfl, ?_, h2, fun H2 => by simp only [aexec, hv]; rfl⟩
    simp only [execOp, ht, asBool, Sem.run_bind, Sem.run_pure, Result.andThen_ok]
  case build T ps => exact fin h fun v hv => build_sim hv (prel_map fun p hp => hρ p.2 (by simp [Op.operands]; exact ⟨p.1, by simpa using hp⟩))
  case nilCheck x =>
    have hx := hρ x (by simp [Op.operands])
    simp only [aexec] at h
    split at h
    · rename_i a ha
      cases h
      rw [ha] at hx
      obtain ⟨A, off, n⟩ := a
      cases n with
      | none => simp [VR, flat] at hx
      | some n =>
        obtain ⟨b, base, ext, hm, e⟩ := vr_ptr.1 hx
        refine ⟨_, _, rfl, rfl, ?_, hx, fun H2 => by simp only [aexec, ha]⟩
        simp only [execOp, e]
        rfl
    · cases h
  case binOp op T x y yT =>
    refine fin h fun v hv => ?_
    exact bin_sim hv (hρ x (by simp [Op.operands])) (hρ y (by simp [Op.operands]))
  case unOp op t x => exact fin h fun v hv => un_sim hv (hρ x (by simp [Op.operands]))
  case makeInterface T x => exact fin h fun v hv => iface_sim hv (hρ x (by simp [Op.operands]))
  case makeFunc fn first captured =>
    cases h
    refine ⟨_, _, rfl, rfl, rfl, vr_func.2 ⟨_, _, rfl, ?_, ?_⟩, fun _ => rfl⟩
    · rw [Array.toList_map, Array.toList_map]; exact vrl_map fun x hx => hρ x (by simp [Op.operands]; exact .inl (by simpa using hx))
    · rw [Array.toList_map, Array.toList_map]; exact vrl_map fun x hx => hρ x (by simp [Op.operands]; exact .inr (by simpa using hx))
  case slice t x lo hi mx =>
    refine fin h fun v hv => slice_sim hE hv (hρ x (by simp [Op.operands])) (ov_map fun y hy => hρ y ?_) (ov_map fun y hy => hρ y ?_) (ov_map fun y hy => hρ y ?_)
    · simp [Op.operands]; exact .inr (.inl (by simpa using hy))
    · simp [Op.operands]; exact .inr (.inr (.inl (by simpa using hy)))
    · simp [Op.operands]; exact .inr (.inr (.inr (by simpa using hy)))
  case fieldAddr s x f => exact fin h fun v hv => fieldA_sim hv (hρ x (by simp [Op.operands]))
  case field T x f => exact fin h fun v hv => field_sim hv (hρ x (by simp [Op.operands]))
  case indexAddr t x i => exact fin h fun v hv => idxA_sim hv (hρ x (by simp [Op.operands])) (hρ i (by simp [Op.operands]))
  case index t x i => exact fin h fun v hv => index_sim hv (hρ x (by simp [Op.operands])) (hρ i (by simp [Op.operands]))
  case typeAssert x T T' ok => exact fin h fun v hv => assert_sim hv (hρ x (by simp [Op.operands]))
  case extract x i => exact fin h fun v hv => extract_sim hv (hρ x (by simp [Op.operands]))
  all_goals (simp only [opClass] at h0; (try unfold bClass at h0); (repeat' split at h0) <;> first | (cases h0; done) | (simp only [bClass] at h0; (repeat' split at h0) <;> cases h0))
theorem newObj_run (w : World) (o : Obj) : (newObj o).run P w = .ok w.heap.size (w.alloc o) := rfl
theorem newObj_sim {prot : Nat} (hH : HR N0 W0 M H w) {s : Sem Value} {q : Prop} {B : Blk} {o : Obj} {v : Value} {v' : Nat → Value} (hs : s.run P w = .ok (v' w.heap.size) (w.alloc o))
    (hro : B.ro = false) (hkk : B.k = 1 ∨ B.k = 2)
    (he : ∀ (M' : Mp) (w' : World), w'.heap[w.heap.size]? = some o → (B.k = 1 → ∃ es clock, w'.heap[w.heap.size]? = some (Obj.map es clock) ∧ ML M' B.m es.toList) ∧ (B.k = 2 → ∃ s pos, B.c = #[.string s, .int .i64 ((pos : Nat) : Int)] ∧ w'.heap[w.heap.size]? = some (Obj.stringIter s pos)))
    (hv : ∀ M', M' H.length 0 = some (w.heap.size, 0, 1) → VR M' v (v' w.heap.size)) :
    SimX prot N0 W0 P M H w (s.bind fun v => .pure (Next.value v)) q (.ok (Next.value v)) (H ++ [B]) := by
  have hobj : (w.alloc o).heap[w.heap.size]? = some o := by
    show (w.heap.push o)[w.heap.size]? = _
    simp
  obtain ⟨g1, g2, g3⟩ := hH.new (n := 0) (ext := 1) (B := B) (below_alloc w o) ⟨by simp, fun _ => hH.n0, fun hr => by simp [hro] at hr, fun k => by omega,
    fun k => ⟨rfl, rfl, rfl, (he _ _ hobj).1 k⟩, by omega, fun k => ⟨rfl, rfl, rfl, (he M _ hobj).2 k⟩⟩
  exact SimV.x ⟨_, _, _, hs, g2, g1, hv _ (Mp.set_same _ _ _ _), fun _ => g3⟩
theorem callFunc_run {f : FuncId} {fn : Func} {args : Array Value} (hf : P.funcs[f]? = some fn) (hb : fn.body.isSome = true) (hn : fn.name ≠ "runtime.NumGoroutine") : (callFunc f args).run P w = .ok (.enter f args) w := by
  unfold callFunc
  have h2 : fn.body.isNone = false := by cases h : fn.body <;> simp_all
  have h1 : (fn.name == "runtime.NumGoroutine") = false := by simpa using hn
  simp only [Sem.run_bind]
  show (match P.funcs[f]? with | none => _ | some fn => _ : Sem Next).run P w = _
  rw [hf]
  simp only [h1, Bool.false_eq_true, if_false, h2]
  rfl
def Taken (P : Program) (f : FuncId) : Prop := ∃ fn, P.funcs[f]? = some fn ∧ fn.body.isSome = true ∧ fn.name ≠ "runtime.NumGoroutine"
theorem exec_sim (hH : HR N0 W0 M H w) {cl : FuncId → Nat} {dq : Bool} {prot : Nat} {ρ ρ' : Operand → Value} {o : Oper} {r : Res} (hρ : ∀ x ∈ o.op.operands.toList, VR M (ρ x) (ρ' x))
    (h : aexec P cl dq prot ρ o.op H = some (r, H')) (hT : ∀ f args, r = .ok (.enter f args) → Taken P f) (hcs : ∀ v, ρ (.const v) = v) : SimX prot N0 W0 P M H w (execOp ρ' o) (opClass cl o.op ≤ 1) r H' := by
  by_cases h0 : opClass cl o.op = 0
  · obtain ⟨v, v', rfl, rfl, h1, h2, _⟩ := exec0 (w := w) (fun _ _ _ _ _ e => hH.nle e) h0 hρ h
    exact ⟨w, M, v', h1, .refl _, hH, h2, fun _ => .refl _ _ _ fun _ _ _ e => hH.valid e, fun _ => .refl _ _ _⟩
  obtain ⟨dst, op, type, pos, after, guard⟩ := o
  have ops1 : ∀ {x : Operand} {op : Op}, (∀ x ∈ op.operands.toList, VR M (ρ x) (ρ' x)) → op.operands = #[x] → VR M (ρ x) (ρ' x) := fun h e => h _ (by simp [e])
  cases op <;> first | (exact absurd rfl h0) | (cases h; done) | skip
  case alloc t =>
    simp only [aexec] at h
    obtain ⟨cs, hcs, h⟩ := Option.map_eq_some_iff.1 h
    obtain ⟨z, hz, hc⟩ := Option.bind_eq_some_iff.1 hcs
    cases h
    exact (alloc_sim hH hz hc True).x
  case box t x =>
    simp only [aexec] at h
    obtain ⟨cs, hc, h⟩ := Option.map_eq_some_iff.1 h
    cases h
    exact (box_sim hH hc (hρ x (by simp [Op.operands])) True).x
  case buildSlice t len ps =>
    simp only [aexec] at h
    obtain ⟨c, hc, h⟩ := Option.map_eq_some_iff.1 h
    cases h
    exact (buildSlice_sim hH hc (prel_map fun p hp => hρ p.2 (by simp [Op.operands]; exact ⟨p.1, by simpa using hp⟩)) True).x
  case load t a =>
    obtain ⟨v, hv, rfl, rfl⟩ := vR_some h
    exact pureX hH (load_sim hH hv (hρ a (by simp [Op.operands])))
  case store t a x =>
    obtain ⟨hv, rfl⟩ := uH_some h
    exact (store_sim hH hv (hρ a (by simp [Op.operands])) (hρ x (by simp [Op.operands]))).x (by simp [opClass])
  case convert src dst x =>
    obtain ⟨v, hv, rfl⟩ := vH_some h
    unfold cvS at hv
    split at hv
    · rename_i hsd
      subst hsd
      exact (mark_sim hH hv (hρ x (by simp [Op.operands]))).x (by simp [opClass])
    · exact (conv_sim hH hv (hρ x (by simp [Op.operands])) True).x
  case makeMap t rs =>
    simp only [aexec] at h
    split at h
    · cases h
      rename_i k e hu
      exact newObj_sim (v := .map (some H.length)) (v' := fun b => .map (some b)) (o := .map #[] 0) hH rfl rfl (.inl rfl) (fun M' w' hw => ⟨fun _ => ⟨#[], 0, hw, rfl, fun i p e hp => by simp at hp⟩, fun h => by simp at h⟩) fun M' e => vr_map.2 ⟨_, _, _, e, rfl⟩
    · cases h
  case makeSlice t l c =>
    obtain ⟨v, hv, rfl⟩ := vH_some h
    exact (make_sim hH hv (hρ l (by simp [Op.operands])) (hρ c (by simp [Op.operands])) True).x
  case lookup T x k ok =>
    obtain ⟨v, hv, rfl, rfl⟩ := vR_some h
    exact pureX hH (lookup_sim hH hv (hρ x (by simp [Op.operands])) (hρ k (by simp [Op.operands])))
  case mapUpdate T m k v =>
    obtain ⟨hv, rfl⟩ := uH_some h
    exact (mapUp_sim hH hv (hρ m (by simp [Op.operands])) (hρ k (by simp [Op.operands])) (hρ v (by simp [Op.operands]))).x (by simp [opClass])
  case insert T m k v =>
    obtain ⟨hv, rfl⟩ := uH_some h
    exact (mapUp_sim hH hv (hρ m (by simp [Op.operands])) (hρ k (by simp [Op.operands])) (hρ v (by simp [Op.operands]))).x (by simp [opClass])
  case range T x =>
    simp only [aexec] at h
    have hx := hρ x (by simp [Op.operands])
    split at h
    · cases h
      rename_i s hu hs
      rw [hs] at hx
      have hx' := (vr_flat rfl).1 hx
      refine newObj_sim (v := .pointer (some ⟨H.length, 0, some 0⟩)) (v' := fun b => .pointer (some ⟨b, 0, none⟩)) (o := .stringIter s 0) (s := Instr.range T (ρ' x)) hH ?_ rfl (.inr rfl) (fun M' w' hw => ⟨fun h => by simp at h, fun _ => ⟨s, 0, rfl, hw⟩⟩) fun M' e => vr_ptr.2 ⟨_, _, _, e, rfl⟩
      rw [hx']
      unfold Instr.range
      simp only [Sem.run_bind, run_u hu, Result.andThen_ok, Sem.run_pure, newObj_run]
    · cases h
  case next it isS =>
    simp only [aexec] at h
    split at h
    · rename_i hs
      subst hs
      obtain ⟨v, hv, rfl⟩ := vH_some h
      exact (next_sim (ty := type) hH hv (hρ it (by simp [Op.operands]))).x (by simp [opClass])
    · cases h
  case panic x =>
    simp only [aexec] at h
    have hx := hρ x (by simp [Op.operands])
    split at h
    · cases h
      rename_i t v hs
      rw [hs] at hx
      obtain ⟨v', e, hv⟩ := vr_iface.1 hx
      refine ⟨_, ?_, hx, rfl, by simp [opClass]⟩
      simp only [execOp, e]
      rfl
    · cases h
  case defer c =>
    simp only [aexec] at h
    split at h
    · rename_i f hf
      split at h
      · rename_i g first captured hg
        cases h
        have hx := hρ f (by simp [Op.operands, Call.operands, hf])
        rw [hg] at hx
        obtain ⟨a', b', e, h1, h2⟩ := vr_func.1 hx
        refine ⟨{ target := .fn (.func g) b', args := a' ++ c.args.map ρ' }, ?_, ⟨.func g, captured, b', rfl, rfl, h2, ?_⟩, rfl, by simp [opClass]⟩
        · simp only [execOp, resolve, hf, e, Deferred.ofValue]
          rfl
        · simp only [Array.toList_append, Array.toList_map]
          exact vrl_append h1 (vrl_map fun x hx => hρ x (by simp [Op.operands, Call.operands, hf]; exact .inr (by simpa using hx)))
      · cases h
    · cases h
  case call c =>
    simp only [aexec, acall] at h
    have hargs : VRL M (c.args.map ρ).toList (c.args.map ρ').toList := by
      simp only [Array.toList_map]
      exact vrl_map fun x hx => hρ x (by cases hc : c.callee <;> simp [Op.operands, Call.operands, hc] <;> first | exact hx | exact .inr (by simpa using hx) | simpa using hx)
    split at h
    · rename_i b hb
      have : SimX prot N0 W0 P M H w (builtin b c.argTypes type (c.args.map fun | .const _ => true | _ => false) (c.args.map ρ')) (opClass cl (.call c) ≤ 1) r H' := by
        refine builtin_sim hH (fun hq => ?_) h hargs
        simp only [opClass, hb] at hq
        unfold bClass at hq
        split at hq
        · exact .inl rfl
        · exact .inr (.inl rfl)
        · exact .inr (.inr (.inl rfl))
        · refine .inr (.inr (.inr ⟨rfl, ?_⟩))
          split at hq
          · rename_i hn
            unfold nilA at hn
            split at hn
            · rename_i l hl
              exact ⟨l.map ρ, by rw [Array.toList_map, hl, List.map_cons, hcs]⟩
            · cases hn
          · omega
        · omega
      have e : execOp ρ' ⟨dst, .call c, type, pos, after, guard⟩ = builtin b c.argTypes type (c.args.map fun | .const _ => true | _ => false) (c.args.map ρ') := by
        simp only [execOp, resolve, hb, invoke]
        rfl
      rw [e]
      exact this
    · rename_i f hf
      split at h
      · rename_i g first captured hg
        split at h
        · cases h
        · cases h
          have hx := hρ f (by simp [Op.operands, Call.operands, hf])
          rw [hg] at hx
          obtain ⟨a', b', e, h1, h2⟩ := vr_func.1 hx
          obtain ⟨fn, g1, g2, g3⟩ := hT _ _ rfl
          refine ⟨a' ++ c.args.map ρ' ++ b', ?_, ?_, rfl⟩
          · simp only [execOp, resolve, hf, e, Deferred.ofValue]
            show (callFunc g (a' ++ c.args.map ρ' ++ b')).run P w = _
            exact callFunc_run g1 g2 g3
          · simp only [Array.toList_append]
            exact vrl_append (vrl_append h1 hargs) h2
      · cases h
    · cases h
end Go.AM

namespace Go.AM
open Go
open Go.RowKit (Below)
variable {P : Program} {N0 : Nat} {W0 : World}
def DL (M : Mp) : List Deferred → List Deferred → Prop
  | [], l => l = []
  | d :: ds, l => ∃ d' ds', l = d' :: ds' ∧ DR M d d' ∧ DL M ds ds'
def CR (M : Mp) : List PanicEntry → List PanicEntry → Prop
  | [], l => l = []
  | x :: xs, l => ∃ y ys, l = y :: ys ∧ VR M x.v y.v ∧ y.recovered = x.recovered ∧ y.goexit = x.goexit ∧ CR M xs ys
structure SR (M : Mp) (N : Nat) (s : St) (a : Act) : Prop where
  t : ∀ i, VR M (s.t i) (a.tmps.getD i undef)
  n : N ≤ a.tmps.size
  d : DL M s.ds a.defers
def XR (M : Mp) : Exit → Exit → Prop
  | .panic ch, .panic ch' => CR M ch ch'
  | .normal, .normal => True
  | .ret, .ret => True
  | .exit i, .exit j => i = j
  | .goto i, .goto j => i = j
  | _, _ => False
def ER (M : Mp) : Ending → Ending → Prop
  | .returned v, .returned v' => VR M v v'
  | .panicked ch, .panicked ch' => CR M ch ch'
  | _, _ => False
theorem DR.mono {M M' : Mp} (hM : Mle M M') {d d' : Deferred} (h : DR M d d') : DR M' d d' := by
  obtain ⟨fn, c, c', h1, h2, h3, h4⟩ := h
  exact ⟨fn, c, c', h1, h2, vrl_mono hM h3, vrl_mono hM h4⟩
theorem DL.mono {M M' : Mp} (hM : Mle M M') : ∀ {d d' : List Deferred}, DL M d d' → DL M' d d'
  | [], _, h => h
  | _ :: _, _, ⟨d', ds', e, h1, h2⟩ => ⟨d', ds', e, h1.mono hM, h2.mono hM⟩
theorem CR.mono {M M' : Mp} (hM : Mle M M') : ∀ {d d' : List PanicEntry}, CR M d d' → CR M' d d'
  | [], _, h => h
  | _ :: _, _, ⟨d', ds', e, h1, h2, h3, h4⟩ => ⟨d', ds', e, vr_mono hM h1, h2, h3, h4.mono hM⟩
theorem SR.mono {M M' : Mp} (hM : Mle M M') {N : Nat} {s : St} {a : Act} (h : SR M N s a) : SR M' N s a :=
  ⟨fun i => vr_mono hM (h.t i), h.n, h.d.mono hM⟩
theorem SR.heap {M : Mp} {N : Nat} {s : St} {a : Act} (h : SR M N s a) (H : Heap) : SR M N { s with H := H } a := ⟨h.t, h.n, h.d⟩
theorem SR.put {M : Mp} {N : Nat} {s : St} {a : Act} (h : SR M N s a) {d : Option Tmp} (hd : ∀ i, d = some i → i < N) {v v' : Value} (hv : VR M v v') : SR M N (s.put d v) (a.put d v') := by
  cases d with
  | none => exact h
  | some d =>
    have hlt : d < a.tmps.size := Nat.lt_of_lt_of_le (hd d rfl) h.n
    refine ⟨fun i => ?_, by simp [Act.put]; exact h.n, h.d⟩
    simp only [St.put, Act.put, upd, Array.getD_eq_getD_getElem?]
    by_cases hi : i = d
    · subst hi
      rw [if_pos rfl, Array.getElem?_setIfInBounds_self_of_lt hlt]
      exact hv
    · rw [if_neg hi, Array.getElem?_setIfInBounds_ne (fun e => hi e.symm)]
      have := h.t i
      rwa [Array.getD_eq_getD_getElem?] at this
theorem vr_self {M : Mp} {v : Value} (h : ground v = true) : VR M v v := (vr_ground h).2 rfl
theorem vr_undef_self {M : Mp} : VR M undef undef := vr_self (by simp [undef, ground])
theorem vr_funcC {M : Mp} (f : FuncId) : VR M (.func (.func f) #[] #[]) (.func (.func f) #[] #[]) := vr_func.2 ⟨_, _, rfl, vrl_nil.2 rfl, vrl_nil.2 rfl⟩
theorem SR.eval {M : Mp} {N : Nat} {s : St} {a : Act} (h : SR M N s a) {x : Operand} (hx : constOk x = true) : VR M (s.eval x) (a.eval x) := by
  cases x with
  | tmp t => exact h.t t
  | const v => exact vr_self hx
  | global g => simp [St.eval, VR]
  | func f => exact vr_funcC f
theorem want_sim {M : Mp} {e : Nat → Value} {a : Act} {ops : Array Oper} {o : Oper} {b : Bool} (h : ∀ d, d ∈ o.looksAt ops → VR M (e d) (a.tmps.getD d undef)) (hw : wantT ops e o = some b) : Region.wanted o (yielded ops a.tmps) = b := by
  unfold wantT at hw
  unfold Region.wanted
  split at hw
  · rename_i hg
    rw [hg]
    simpa using hw
  · rename_i j want hg
    rw [hg]
    simp only [yielded]
    cases hd : (ops[j]?).bind (·.dst) with
    | none =>
      rw [hd] at hw
      simp at hw
      subst hw
      simp
    | some d =>
      rw [hd] at hw
      simp only at hw
      have ht := h d (by simp [Oper.looksAt, hg, hd])
      rw [Array.getD_eq_getD_getElem?] at ht
      split at hw
      · rename_i v hv
        rw [hv] at ht
        have := (vr_flat rfl).1 ht
        simp only [Option.bind_some]
        cases hg2 : a.tmps[d]? with
        | none => rw [hg2] at this; simp [undef] at this
        | some u =>
          rw [hg2] at this
          simp only [Option.getD_some] at this
          subst this
          simp only [Option.some.injEq] at hw
          simp [← hw]
      · rename_i vs hv
        rw [hv] at ht
        obtain ⟨ds, e, _⟩ := vr_tuple.1 ht
        simp only [Option.bind_some]
        simp only [Option.some.injEq] at hw
        subst hw
        cases hg2 : a.tmps[d]? with
        | none => simp
        | some u =>
          rw [hg2] at e
          simp only [Option.getD_some] at e
          subst e
          simp
      · cases hw
def FnSound (P : Program) (N0 : Nat) (W0 : World) (cl : FuncId → Nat) (fn : Fn') : Prop :=
  ∀ f args prot H e H', fn f args prot H = some (e, H') → Taken P f ∧ (prot ≤ H.length → ∀ M w args', HR N0 W0 M H w → VRL M args.toList args'.toList →
    Calls P f args' w fun e' w' => ∃ M', Mle M M' ∧ HR N0 W0 M' H' w' ∧ ER M' e e' ∧ Kp (if cl f = 1 then H.length else prot) M M' w w')
def FnPre (cl : FuncId → Nat) (fn : Fn') : Prop :=
  ∀ f args prot H e H', fn f args prot H = some (e, H') → prot ≤ H.length → H.length ≤ H'.length ∧ ∀ A, A < (if cl f = 1 then H.length else prot) → H'[A]? = H[A]?
theorem Kp.less {prot prot' : Nat} {M M' : Mp} {H : Heap} {w w' : World} (h : Kp prot' M M' w w') (hp : prot ≤ prot') (hl : prot' = H.length ∨ prot' = prot) (hM : ∀ A n x, M A n = some x → A < H.length) : Kp prot M M' w w' := by
  rcases hl with rfl | rfl
  · exact (h.ext hM).kp hp
  · exact h
def Post (N0 : Nat) (W0 : World) (prot N : Nat) (M : Mp) (w : World) (s' : St) (e : Exit) : Exit → Act → World → Prop := fun e' a' w' =>
  ∃ M', Mle M M' ∧ HR N0 W0 M' s'.H w' ∧ SR M' N s' a' ∧ XR M' e e' ∧ Kp prot M M' w w'
theorem operOk_ops {N : Nat} {o : Oper} (h : operOk N o = true) : (∀ x ∈ o.op.operands.toList, constOk x = true) ∧ ∀ i, o.dst = some i → i < N := by
  unfold operOk at h
  simp only [Bool.and_eq_true] at h
  refine ⟨fun x hx => ?_, fun i hi => by have := h.2; rw [hi] at this; simpa using this⟩
  have := h.1
  rw [Array.all_eq_true_iff_forall_mem] at this
  exact this x (by simpa using hx)
theorem quiet_enter {cl : FuncId → Nat} {dq : Bool} {prot : Nat} {s : St} {op : Op} {H H1 : Heap} {f : FuncId} {args : Array Value} (hdq : dq = true) (hr' : aexec P cl dq prot s.eval op H = some (.ok (.enter f args), H1)) (hc : opClass cl op ≤ 1) : cl f = 1 := by
  cases op <;> simp only [aexec] at hr' <;> first | (cases hr'; done) | skip
  case call c =>
    simp only [acall] at hr'
    split at hr'
    · rename_i b hb
      exfalso
      unfold abuiltin at hr'
      split at hr'
      all_goals first
        | (cases hr'; done)
        | (split at hr' <;> first | (cases hr'; done) | (first | (obtain ⟨_, _, e, _⟩ := vR_some hr'; cases e) | (obtain ⟨_, _, e⟩ := vH_some hr'; cases e)))
        | (obtain ⟨_, _, e⟩ := vH_some hr'; cases e)
    · rename_i x hx
      split at hr'
      · rename_i g first captured hg
        split at hr'
        · cases hr'
        · rename_i hnd
          cases hr'
          cases x with
          | tmp t =>
            simp only [dynC, hx, hdq, Bool.and_self, true_and, ne_eq, Decidable.not_not] at hnd
            exact hnd
          | func f0 =>
            simp only [St.eval] at hg
            cases hg
            simp only [opClass, hx] at hc
            split at hc
            · assumption
            · omega
          | const v => simp [opClass, hx] at hc
          | global v => simp [opClass, hx] at hc
      · cases hr'
    · cases hr'
  all_goals exfalso
  all_goals first
    | (obtain ⟨_, _, e, _⟩ := vR_some hr'; cases e; done)
    | (obtain ⟨_, _, e⟩ := vH_some hr'; cases e; done)
    | (obtain ⟨_, e⟩ := uH_some hr'; cases e; done)
    | (obtain ⟨_, _, e⟩ := Option.map_eq_some_iff.1 hr'; cases e; done)
    | (split at hr' <;> cases hr'; done)
    | (split at hr' <;> first | (cases hr'; done) | (split at hr' <;> cases hr'; done))
    | (split at hr' <;> first | (cases hr'; done) | (obtain ⟨_, _, e⟩ := vH_some hr'; cases e))
theorem evOp_core {cl : FuncId → Nat} {fn : Fn'} (hfn : FnSound P N0 W0 cl fn) {M : Mp} {w : World} {s s' : St} {a : Act} (hH : HR N0 W0 M s.H w) {dq : Bool} {prot : Nat} {o : Oper} (hρ : ∀ x ∈ o.op.operands.toList, VR M (s.eval x) (a.eval x)) {e : Exit}
    (h : evOp fn P cl dq prot o.op o.dst s = some (e, s')) {K : Act → World → Prop} {Q : Exit → Act → World → Prop} (hp : prot ≤ s.H.length)
    (hK : e = .normal → ∀ v v' M' w' a1, s'.t = (s.put o.dst v).t → ((s'.ds = s.ds ∧ a1 = a) ∨ ∃ d d', s'.ds = d :: s.ds ∧ a1 = { a with defers := d' :: a.defers } ∧ DR M' d d' ∧ ¬ opClass cl o.op ≤ 1) → Mle M M' → HR N0 W0 M' s'.H w' → VR M' v v' →
      Kp prot M M' w w' → (opClass cl o.op ≤ 1 → dq = true → Ext s.H M M' w w') → K (a1.put o.dst v') w')
    (hQ : e ≠ .normal → ∀ e' M' w', s'.t = s.t → s'.ds = s.ds → Mle M M' → HR N0 W0 M' s'.H w' → XR M' e e' → Kp prot M M' w w' → (opClass cl o.op ≤ 1 → dq = true → Ext s.H M M' w w') → Q e' a w') : o.wp P a w K Q := by
  unfold evOp at h
  obtain ⟨r, hr, h⟩ := Option.bind_eq_some_iff.1 h
  obtain ⟨r, H1⟩ := r
  have hT : ∀ f args, r = .ok (.enter f args) → Taken P f := by
    rintro f args rfl
    simp only at h
    obtain ⟨q, hq, _⟩ := Option.bind_eq_some_iff.1 h
    obtain ⟨e1, H2⟩ := q
    exact (hfn _ _ _ _ _ _ hq).1
  have hx := exec_sim (prot := prot) hH hρ hr hT fun _ => rfl
  have hself := Ext.refl s.H M w fun _ _ _ e => hH.valid e
  unfold Oper.wp
  split at h
  · rename_i v hv
    simp only at hv; subst hv
    cases h
    obtain ⟨w', M', v', h1, h2, h3, h4, h5, h6⟩ := hx
    rw [h1]
    exact hK rfl v v' M' w' a rfl (.inl ⟨by cases o.dst <;> rfl, rfl⟩) h2 h3 h4 (h6 hp) fun hc _ => h5 hc
  · rename_i hv
    simp only at hv; subst hv
    cases h
    obtain ⟨w', M', h1, h2, h3, hnq, h6⟩ := hx
    rw [h1]
    exact hK rfl undef undef M' w' a rfl (.inl ⟨by cases o.dst <;> rfl, rfl⟩) h2 h3 vr_undef_self h6 fun hc => absurd hc hnq
  · rename_i d hv
    simp only at hv; subst hv
    cases h
    obtain ⟨d', h1, h2, rfl, hnq⟩ := hx
    rw [h1]
    exact hK rfl undef undef M w _ (by cases o.dst <;> rfl) (.inr ⟨d, d', by cases o.dst <;> rfl, rfl, h2, hnq⟩) (.refl _) hH vr_undef_self (.refl _ _ _) fun hc => absurd hc hnq
  · rename_i f args hv
    simp only at hv; subst hv
    obtain ⟨⟨e1, H2⟩, hq, h3⟩ := Option.bind_eq_some_iff.1 h
    clear h
    obtain ⟨args', h1, h2, rfl⟩ := hx
    rw [h1]
    refine Calls.mono ((hfn _ _ _ _ _ _ hq).2 hp M w args' hH h2) ?_
    rintro e' w' ⟨M', g1, g2, g3, g4⟩
    have kp : Kp prot M M' w w' := g4.less (H := s.H) (by split <;> omega) (by split <;> simp) fun _ _ _ e => hH.valid e
    have hex : opClass cl o.op ≤ 1 → dq = true → Ext s.H M M' w w' := by
      intro hc hdq
      have : cl f = 1 := quiet_enter hdq hr hc
      have h5 := g4
      rw [if_pos this] at h5
      exact h5.ext fun _ _ _ e => hH.valid e
    split at h3
    · rename_i v hv
      simp only at hv; subst hv
      cases h3
      cases e' with
      | returned v' => exact hK rfl v v' M' w' a rfl (.inl ⟨by cases o.dst <;> rfl, rfl⟩) g1 g2 g3 kp hex
      | _ => exact g3.elim
    · rename_i ch hv
      simp only at hv; subst hv
      cases h3
      cases e' with
      | panicked ch' => exact hQ (by simp) _ M' w' rfl rfl g1 g2 g3 kp hex
      | _ => exact g3.elim
    · cases h3
  · rename_i v hv
    simp only at hv; subst hv
    cases h
    obtain ⟨v', h1, h2, rfl, _⟩ := hx
    rw [h1]
    exact hQ (by simp) _ M w rfl rfl (.refl _) hH ⟨_, _, rfl, h2, rfl, rfl, rfl⟩ (.refl _ _ _) fun _ _ => hself
  · cases h
theorem evOp_wp {cl : FuncId → Nat} {fn : Fn'} (hfn : FnSound P N0 W0 cl fn) {M : Mp} {w : World} {N : Nat} {s s' : St} {a : Act} (hH : HR N0 W0 M s.H w) (hS : SR M N s a) {dq : Bool} {prot : Nat} {o : Oper} (ho : operOk N o = true) {e : Exit}
    (h : evOp fn P cl dq prot o.op o.dst s = some (e, s')) {K : Act → World → Prop} {Q : Exit → Act → World → Prop} (hp : prot ≤ s.H.length) (hK : e = .normal → ∀ a' w', Post N0 W0 prot N M w s' .normal .normal a' w' → K a' w')
    (hQ : ∀ e' a' w', e ≠ .normal → Post N0 W0 prot N M w s' e e' a' w' → Q e' a' w') : o.wp P a w K Q := by
  obtain ⟨hops, hdst⟩ := operOk_ops ho
  refine evOp_core hfn hH (fun x hx => hS.eval (hops x hx)) h hp ?_ ?_
  · rintro he v v' M' w' a1 ht hds h1 h2 h3 h4 _
    refine hK he _ _ ⟨M', h1, h2, ?_, trivial, h4⟩
    have h5 := (hS.mono h1).put hdst h3
    rcases hds with ⟨hd, rfl⟩ | ⟨d, d', hd, rfl, hdr, _⟩
    · exact ⟨fun i => by rw [ht]; exact h5.t i, h5.n, by rw [hd]; have := h5.d; cases hx : o.dst <;> rw [hx] at this <;> exact this⟩
    · have h6 : SR M' N { s with ds := d :: s.ds } { a with defers := d' :: a.defers } := ⟨(hS.mono h1).t, hS.n, ⟨d', _, rfl, hdr, (hS.mono h1).d⟩⟩
      have h7 := h6.put hdst h3
      exact ⟨fun i => by rw [ht]; have := h7.t i; cases hx : o.dst <;> rw [hx] at this <;> exact this, h7.n, by rw [hd]; have := h7.d; cases hx : o.dst <;> rw [hx] at this <;> exact this⟩
  · rintro he e' M' w' ht hd h1 h2 h3 h4 _
    exact hQ _ _ _ he ⟨M', h1, h2, ⟨fun i => by rw [ht]; exact (hS.mono h1).t i, hS.n, by rw [hd]; exact (hS.mono h1).d⟩, h3, h4⟩
theorem Post.trans {prot N : Nat} {M M1 : Mp} {w w1 : World} {s' : St} {e e' : Exit} {a' : Act} {w' : World} (hM : Mle M M1) (hk : Kp prot M M1 w w1)
    (h : Post N0 W0 prot N M1 w1 s' e e' a' w') : Post N0 W0 prot N M w s' e e' a' w' := by
  obtain ⟨M', g1, g2, g3, g4, g5⟩ := h
  exact ⟨M', hM.trans g1, g2, g3, g4, hk.trans g5⟩
end Go.AM

namespace Go.AM
open Go
open Go.RowKit (Below)
variable {P : Program} {N0 : Nat} {W0 : World}
def Pr (prot : Nat) (H H' : Heap) : Prop := H.length ≤ H'.length ∧ ∀ A, A < prot → H'[A]? = H[A]?
theorem Pr.refl (prot : Nat) (H : Heap) : Pr prot H H := ⟨Nat.le_refl _, fun _ _ => rfl⟩
theorem Pr.trans {prot : Nat} {a b c : Heap} (h : Pr prot a b) (k : Pr prot b c) : Pr prot a c := ⟨Nat.le_trans h.1 k.1, fun A hA => (k.2 A hA).trans (h.2 A hA)⟩
theorem Pr.push (H X : Heap) : Pr H.length H (H ++ X) := ⟨by simp, fun A hA => List.getElem?_append_left hA⟩
theorem Pr.less {prot prot' : Nat} {H H' : Heap} (h : Pr prot' H H') (hp : prot ≤ prot') : Pr prot H H' := ⟨h.1, fun A hA => h.2 A (by omega)⟩
theorem Pr.set {prot A : Nat} {H : Heap} {B : Blk} (h : prot ≤ A) : Pr prot H (H.set A B) := ⟨by simp, fun A' hA => List.getElem?_set_ne (by omega)⟩
theorem vR_heap {H H' : Heap} {x : Option Value} {r : Res} (h : vR H x = some (r, H')) : H' = H := by obtain ⟨_, _, _, h⟩ := vR_some h; exact h
theorem wr_pre {H H' : Heap} {prot A off n : Nat} {vs : Array Value} (h : wr H prot A off n vs = some H') : Pr prot H H' := by
  unfold wr at h
  obtain ⟨B, hB, h⟩ := Option.bind_eq_some_iff.1 h
  split at h
  · rename_i hc; cases h; exact .set hc.2.1
  · cases h
theorem stA_pre {H H' : Heap} {prot : Nat} {t : TypeId} {a x : Value} (h : stA P H prot t a x = some H') : Pr prot H H' := by
  unfold stA at h
  split at h
  · obtain ⟨cs, _, h⟩ := Option.bind_eq_some_iff.1 h
    split at h
    · exact wr_pre h
    · cases h
  · cases h
theorem append_pre {H H' : Heap} {prot : Nat} {st : TypeId} {s x v : Value} (h : appendV P prot st s x H = some (v, H')) (hp : prot ≤ H.length) : Pr prot H H' := by
  unfold appendV at h
  split at h
  · obtain ⟨sb, _, h⟩ := Option.bind_eq_some_iff.1 h
    obtain ⟨xm, _, h⟩ := Option.bind_eq_some_iff.1 h
    split at h
    · split at h
      · cases h; exact .refl _ _
      · split at h
        · cases h; exact (Pr.push _ _).less hp
        · cases h
    · split at h
      · split at h
        · cases h; exact .refl _ _
        · obtain ⟨B, _, h⟩ := Option.bind_eq_some_iff.1 h
          split at h
          · rename_i hc; cases h; exact .set hc.2.1
          · cases h
      · cases h
    · cases h
  · cases h
theorem copy_pre {H H' : Heap} {prot : Nat} {st : TypeId} {s x v : Value} (h : copyV P prot st s x H = some (v, H')) : Pr prot H H' := by
  unfold copyV at h
  split at h
  · obtain ⟨sb, _, h⟩ := Option.bind_eq_some_iff.1 h
    obtain ⟨xm, _, h⟩ := Option.bind_eq_some_iff.1 h
    split at h
    · cases h; exact .refl _ _
    · split at h
      · obtain ⟨H2, h2, h⟩ := Option.map_eq_some_iff.1 h
        cases h; exact wr_pre h2
      · cases h
    · cases h
  · cases h
theorem mapUp_pre {H H' : Heap} {prot : Nat} {T : TypeId} {x k v : Value} (h : mapUp P prot T x k v H = some H') : Pr prot H H' := by
  unfold mapUp at h
  split at h
  · obtain ⟨B, _, h⟩ := Option.bind_eq_some_iff.1 h
    split at h
    · rename_i hc
      obtain ⟨q, _, h⟩ := Option.bind_eq_some_iff.1 h
      split at h
      · obtain ⟨p, _, h⟩ := Option.bind_eq_some_iff.1 h
        split at h
        · cases h; exact .set hc.2.1
        · cases h
      · cases h; exact .set hc.2.1
    · cases h
  · cases h
theorem next_pre {H H' : Heap} {prot : Nat} {x v : Value} (h : nextV prot x H = some (v, H')) : Pr prot H H' := by
  unfold nextV at h
  split at h
  · obtain ⟨B, _, h⟩ := Option.bind_eq_some_iff.1 h
    split at h
    · rename_i hc
      split at h
      · split at h
        · split at h
          · cases h; exact .set hc.2.1
          · cases h; exact .refl _ _
        · cases h
      · cases h
    · cases h
  · cases h
theorem conv_pre {H H' : Heap} {src dst : TypeId} {x v : Value} (h : convV P src dst x H = some (v, H')) : Pr H.length H H' := by
  unfold convV at h
  split at h
  · split at h
    · cases h; exact .push _ _
    · simp only at h
      split at h
      · cases h; exact .push _ _
      · cases h
    · cases h
  · split at h
    · split at h
      · obtain ⟨cs, _, h⟩ := Option.bind_eq_some_iff.1 h
        obtain ⟨b, _, h⟩ := Option.map_eq_some_iff.1 h
        cases h; exact .refl _ _
      · cases h
    · cases h
  · split at h
    · obtain ⟨v, _, h⟩ := Option.bind_eq_some_iff.1 h
      split at h
      · cases h; exact .refl _ _
      · cases h
    · cases h
theorem mark_pre {H H' : Heap} {prot : Nat} {T : TypeId} {x v : Value} (h : markV P prot T x H = some (v, H')) : Pr H.length H H' := by
  unfold markV at h
  split at h
  · split at h
    · obtain ⟨B, _, h⟩ := Option.bind_eq_some_iff.1 h
      split at h
      · cases h; exact .refl _ _
      · cases h
    · cases h
  · exact conv_pre h
theorem mkSl_pre {H H' : Heap} {t : TypeId} {l c v : Value} (h : mkSl P t l c H = some (v, H')) : Pr H.length H H' := by
  unfold mkSl at h
  split at h
  · obtain ⟨_, _, h⟩ := Option.bind_eq_some_iff.1 h
    obtain ⟨_, _, h⟩ := Option.bind_eq_some_iff.1 h
    obtain ⟨_, _, h⟩ := Option.bind_eq_some_iff.1 h
    split at h
    · cases h; exact .push _ _
    · cases h
  · cases h
theorem builtin_pre {H H' : Heap} {prot : Nat} {b : Builtin} {ats : Array TypeId} {xs : Array Value} {r : Res} (h : abuiltin P prot b ats xs H = some (r, H')) (hp : prot ≤ H.length) : Pr prot H H' ∧ (b = .len ∨ b = .min ∨ b = .max ∨ (b = .append ∧ ∃ l, xs.toList = .slice none 0 0 :: l) → Pr H.length H H') := by
  unfold abuiltin at h
  split at h
  · split at h
    · cases vR_heap h; exact ⟨.refl _ _, fun _ => .refl _ _⟩
    · cases h
  · split at h
    · cases vR_heap h; exact ⟨.refl _ _, fun _ => .refl _ _⟩
    · cases h
  · split at h
    · cases vR_heap h; exact ⟨.refl _ _, fun _ => .refl _ _⟩
    · cases h
  · split at h
    · rename_i hxs _ _
      obtain ⟨v, h, _⟩ := vH_some h
      refine ⟨append_pre h hp, fun e => ?_⟩
      rcases e with e | e | e | ⟨_, l, e⟩
      · cases e
      · cases e
      · cases e
      · rw [hxs] at e
        injection e with e _
        subst e
        have h2 : appendV P H.length _ (.slice none 0 0) _ H = some (v, H') := Eq.trans (by unfold appendV; rfl) h
        exact append_pre h2 (Nat.le_refl _)
    · cases h
  · obtain ⟨v, h, _⟩ := vH_some h; exact ⟨copy_pre h, fun e => by rcases e with e | e | e | ⟨e, _⟩ <;> cases e⟩
  · cases h
theorem aexec_pre {cl : FuncId → Nat} {dq : Bool} {prot : Nat} {ρ : Operand → Value} {op : Op} {H H' : Heap} {r : Res} (h : aexec P cl dq prot ρ op H = some (r, H')) (hp : prot ≤ H.length) (hcs : ∀ v, ρ (.const v) = v) : Pr prot H H' ∧ (opClass cl op ≤ 1 → Pr H.length H H') := by
  have same : ∀ {H' : Heap}, H' = H → Pr prot H H' ∧ (opClass cl op ≤ 1 → Pr H.length H H') := fun e => by subst e; exact ⟨.refl _ _, fun _ => .refl _ _⟩
  have push : ∀ {H' : Heap}, Pr H.length H H' → Pr prot H H' ∧ (opClass cl op ≤ 1 → Pr H.length H H') := fun e => ⟨e.less hp, fun _ => e⟩
  have big : ∀ {H' : Heap}, ¬ opClass cl op ≤ 1 → Pr prot H H' → Pr prot H H' ∧ (opClass cl op ≤ 1 → Pr H.length H H') := fun n e => ⟨e, fun hh => (n hh).elim⟩
  cases op <;> simp only [aexec] at h <;> first | (cases h; done) | skip
  case move x => cases h; exact same rfl
  case assign x => cases h; exact same rfl
  case alloc t => obtain ⟨cs, _, h⟩ := Option.map_eq_some_iff.1 h; cases h; exact push (.push _ _)
  case box t x => obtain ⟨cs, _, h⟩ := Option.map_eq_some_iff.1 h; cases h; exact push (.push _ _)
  case buildSlice t len ps => obtain ⟨cs, _, h⟩ := Option.map_eq_some_iff.1 h; cases h; exact push (.push _ _)
  case store t a x => obtain ⟨h, _⟩ := uH_some h; exact big (by simp [opClass]) (stA_pre h)
  case nilCheck x => split at h <;> cases h; exact same rfl
  case convert src dst x =>
    obtain ⟨v, h, _⟩ := vH_some h
    unfold cvS at h
    split at h
    · exact push (mark_pre h)
    · exact push (conv_pre h)
  case makeFunc fn first captured => cases h; exact same rfl
  case makeMap t r => split at h <;> cases h; exact push (.push _ _)
  case makeSlice t l c => obtain ⟨v, h, _⟩ := vH_some h; exact push (mkSl_pre h)
  case mapUpdate T m k v => obtain ⟨h, _⟩ := uH_some h; exact big (by simp [opClass]) (mapUp_pre h)
  case insert T m k v => obtain ⟨h, _⟩ := uH_some h; exact big (by simp [opClass]) (mapUp_pre h)
  case range T x => split at h <;> cases h; exact push (.push _ _)
  case next it isS =>
    split at h
    · obtain ⟨v, h, _⟩ := vH_some h; exact big (by simp [opClass]) (next_pre h)
    · cases h
  case call c =>
    simp only [acall] at h
    split at h
    · rename_i b hb
      obtain ⟨h1, h2⟩ := builtin_pre h hp
      refine ⟨h1, fun hq => ?_⟩
      refine h2 ?_
      simp only [opClass, hb] at hq
      unfold bClass at hq
      split at hq
      · exact .inl rfl
      · exact .inr (.inl rfl)
      · exact .inr (.inr (.inl rfl))
      · refine .inr (.inr (.inr ⟨rfl, ?_⟩))
        split at hq
        · rename_i hn
          unfold nilA at hn
          split at hn
          · rename_i l hl
            exact ⟨l.map ρ, by rw [Array.toList_map, hl, List.map_cons, hcs]⟩
          · cases hn
        · omega
      · omega
    · split at h
      · split at h <;> cases h
        exact same rfl
      · cases h
    · cases h
  case defer c =>
    split at h
    · split at h <;> cases h
      exact same rfl
    · cases h
  case panic x => split at h <;> cases h; exact same rfl
  all_goals exact same (vR_heap h)
theorem evOp_pre {cl : FuncId → Nat} {fn : Fn'} (hfn : FnPre cl fn) {s s' : St} {dq : Bool} {prot : Nat} {o : Op} {d : Option Tmp} {e : Exit} (h : evOp fn P cl dq prot o d s = some (e, s')) (hp : prot ≤ s.H.length) : Pr prot s.H s'.H := by
  unfold evOp at h
  obtain ⟨⟨r, H1⟩, hr, h⟩ := Option.bind_eq_some_iff.1 h
  have h1 := (aexec_pre hr hp fun _ => rfl).1
  simp only at h
  split at h
  · cases h; exact h1
  · cases h; exact h1
  · cases h; exact h1
  · obtain ⟨⟨e1, H2⟩, hq, h3⟩ := Option.bind_eq_some_iff.1 h
    obtain ⟨k1, k2⟩ := hfn _ _ _ _ _ _ hq (by have := h1.1; omega)
    have : Pr prot H1 H2 := ⟨k1, fun A hA => k2 A (by split; · have := h1.1; omega
                                                      · exact hA)⟩
    simp only at h3
    split at h3
    · cases h3; exact h1.trans this
    · cases h3; exact h1.trans this
    · cases h3
  · cases h; exact h1
  · cases h
theorem wp_opMono {o : Oper} {a : Act} {w : World} {K K' : Act → World → Prop} {Q Q' : Exit → Act → World → Prop} (hk : ∀ a w, K a w → K' a w) (hq : ∀ e a w, Q e a w → Q' e a w) (h : o.wp P a w K Q) : o.wp P a w K' Q' := by
  unfold Oper.wp at *
  generalize (execOp a.eval o).run P w = r at *
  cases r with
  | ok n w' =>
    cases n <;> simp only [Oper.upon] at h ⊢ <;>
      first
        | exact hk _ _ h
        | exact Calls.mono h (fun e w'' he => by cases e <;> first | exact hk _ _ he | exact hq _ _ _ he | exact (let ⟨a, w, x⟩ := he; ⟨a, w, hq _ _ _ x⟩))
        | exact Rows.mono h (fun _ _ he => hk _ _ he)
  | halt x w' => cases x <;> simp only [Oper.upon] at h ⊢ <;> exact hq _ _ _ h
theorem wpOps_mono {ops : Array Oper} {Q Q' : Exit → Act → World → Prop} (hq : ∀ e a w, Q e a w → Q' e a w) : ∀ {l : List Nat} {a : Act} {w : World}, wpOps P ops Q l a w → wpOps P ops Q' l a w
  | [], _, _, h => hq _ _ _ h
  | i :: l, a, w, h => by
    rw [wpOps] at h ⊢
    split at h
    · exact wpOps_mono hq h
    · split at h
      · rename_i hw
        rw [if_pos hw]
        rcases h with h | ⟨h1, a, w, h2⟩
        · exact .inl (wp_opMono (fun _ _ hk => wpOps_mono hq hk) hq h)
        · exact .inr ⟨h1, a, w, hq _ _ _ h2⟩
      · rename_i hw
        rw [if_neg hw]
        exact wpOps_mono hq h
theorem St.put_H (s : St) (d : Option Tmp) (v : Value) : (s.put d v).H = s.H := by cases d <;> rfl
theorem evOps_pre {cl : FuncId → Nat} {fn : Fn'} (hfn : FnPre cl fn) {dq : Bool} {prot : Nat} {ops : Array Oper} : ∀ {l : List Oper} {s s' : St} {e : Exit}, evOps fn P cl dq prot ops l s = some (e, s') → prot ≤ s.H.length → Pr prot s.H s'.H
  | [], s, s', e, h, hp => by cases h; exact .refl _ _
  | o :: l, s, s', e, h, hp => by
    rw [evOps] at h
    obtain ⟨b, hb, h⟩ := Option.bind_eq_some_iff.1 h
    split at h
    · unfold andThen at h
      obtain ⟨⟨e1, s1⟩, h1, h⟩ := Option.bind_eq_some_iff.1 h
      have k1 := evOp_pre hfn h1 hp
      simp only at h
      split at h
      · exact k1.trans (evOps_pre hfn h (by have := k1.1; omega))
      · cases h; exact k1
    · have := evOps_pre hfn h (by rw [St.put_H]; exact hp)
      rwa [St.put_H] at this
theorem evRest_pre {cl : FuncId → Nat} {fl : Bool} {fn : Fn'} (hfn : FnPre cl fn) {prot : Nat} {ops : Array Oper} {k : Nat} : ∀ {l : List Oper} {i : Nat} {s s' : St}, evRest fl fn P cl prot ops k l i s = some s' → prot ≤ s.H.length → Pr prot s.H s'.H
  | [], _, s, s', h, _ => by cases h; exact .refl _ _
  | o :: l, i, s, s', h, hp => by
    rw [evRest] at h
    split at h
    · exact evRest_pre hfn h hp
    · split at h
      · obtain ⟨b, _, h⟩ := Option.bind_eq_some_iff.1 h
        cases b with
        | true =>
          simp only [if_true] at h
          obtain ⟨⟨e1, s1⟩, h1, h⟩ := Option.bind_eq_some_iff.1 h
          have k1 := evOp_pre hfn (evOpF_some h1).1 hp
          simp only at h
          split at h
          · exact k1.trans (evRest_pre hfn h (by have := k1.1; omega))
          · cases h
        | false =>
          simp only [Bool.false_eq_true, if_false] at h
          have := evRest_pre hfn h (by rw [St.put_H]; exact hp)
          rwa [St.put_H] at this
      · cases h
theorem evDrop_pre {cl : FuncId → Nat} {fl : Bool} {fn : Fn'} (hfn : FnPre cl fn) {prot : Nat} {ops : Array Oper} : ∀ {l : List Oper} {i : Nat} {s s' : St} {e : Exit}, evDrop fl fn P cl prot ops l i s = some (e, s') → prot ≤ s.H.length → Pr prot s.H s'.H
  | [], _, s, s', e, h, _ => by cases h
  | o :: l, i, s, s', e, h, hp => by
    rw [evDrop] at h
    obtain ⟨b, _, h⟩ := Option.bind_eq_some_iff.1 h
    cases b with
    | true =>
      simp only [if_true] at h
      obtain ⟨⟨e1, s1⟩, h1, h⟩ := Option.bind_eq_some_iff.1 h
      have k1 := evOp_pre hfn (evOpF_some h1).1 hp
      simp only at h
      split at h
      · exact k1.trans (evDrop_pre hfn h (by have := k1.1; omega))
      · obtain ⟨s2, h2, h⟩ := Option.map_eq_some_iff.1 h
        cases h
        have := evRest_pre hfn h2 (by rw [St.put_H]; have := k1.1; omega)
        rw [St.put_H] at this
        exact k1.trans this
      · cases h
    | false =>
      simp only [Bool.false_eq_true, if_false] at h
      have := evDrop_pre hfn h (by rw [St.put_H]; exact hp)
      rwa [St.put_H] at this
theorem fltNext_some {P : Program} {o : Op} {d : Option Nat} {t : Nat → Value} {ev : Operand → Value} {H : Heap} {pend : Pend} {go : Pend → Option (Exit × St)} {y : Exit × St} (h : fltNext P o d t ev H pend go = some y) :
    ∃ pend', go pend' = some y ∧ ((∃ T x k, o = .load T x ∧ d = some k ∧ ground (t k) = true ∧ pend' = (T, ev x, t k) :: pend) ∨ (pend' = pend ∧ (mayW o = true → chkF P pend H) ∧ ∀ T x k, o = .load T x → d ≠ some k)) := by
  unfold fltNext at h
  split at h
  · split at h
    · rename_i T x k hg
      exact ⟨_, h, .inl ⟨T, x, k, rfl, rfl, hg, rfl⟩⟩
    · cases h
  · rename_i hno
    have hn : ∀ T x k, o = .load T x → d ≠ some k := fun T x k e1 e2 => hno T x k e1 e2
    split at h
    · split at h
      · rename_i hc
        exact ⟨_, h, .inr ⟨rfl, fun _ => hc, hn⟩⟩
      · cases h
    · rename_i hw
      exact ⟨_, h, .inr ⟨rfl, fun hw' => absurd hw' hw, hn⟩⟩
theorem fltGo_pre {cl : FuncId → Nat} {fn : Fn'} (hfn : FnPre cl fn) {prot : Nat} {ops : Array Oper} : ∀ {l : List Oper} {pend : Pend} {s s' : St} {e : Exit}, fltGo fn P cl prot ops l pend s = some (e, s') → prot ≤ s.H.length → Pr prot s.H s'.H
  | [], _, s, s', e, h, _ => by cases h; exact .refl _ _
  | o :: l, pend, s, s', e, h, hp => by
    rw [fltGo] at h
    obtain ⟨b, _, h⟩ := Option.bind_eq_some_iff.1 h
    cases b with
    | true =>
      simp only [if_true] at h
      obtain ⟨⟨e1, s1⟩, h1, h⟩ := Option.bind_eq_some_iff.1 h
      have k1 := evOp_pre hfn h1 hp
      simp only at h
      split at h
      · obtain ⟨pend', h2, _⟩ := fltNext_some h
        exact k1.trans (fltGo_pre hfn h2 (by have := k1.1; omega))
      · cases h
    | false =>
      simp only [Bool.false_eq_true, if_false] at h
      have := fltGo_pre hfn h (by rw [St.put_H]; exact hp)
      rwa [St.put_H] at this
theorem fltGo_normal {cl : FuncId → Nat} {fn : Fn'} {prot : Nat} {ops : Array Oper} : ∀ {l : List Oper} {pend : Pend} {s s' : St} {e : Exit}, fltGo fn P cl prot ops l pend s = some (e, s') → e = .normal
  | [], _, s, s', e, h => by cases h; rfl
  | o :: l, pend, s, s', e, h => by
    rw [fltGo] at h
    obtain ⟨b, _, h⟩ := Option.bind_eq_some_iff.1 h
    cases b with
    | true =>
      simp only [if_true] at h
      obtain ⟨⟨e1, s1⟩, h1, h⟩ := Option.bind_eq_some_iff.1 h
      simp only at h
      split at h
      · obtain ⟨pend', h2, _⟩ := fltNext_some h
        exact fltGo_normal h2
      · cases h
    | false =>
      simp only [Bool.false_eq_true, if_false] at h
      exact fltGo_normal h
theorem evOps_wp {cl : FuncId → Nat} {fn : Fn'} (hfn : FnSound P N0 W0 cl fn) (hpre : FnPre cl fn) {N : Nat} {prot : Nat} {dq : Bool} {ops : Array Oper} (hok : ∀ o ∈ ops.toList, operOk N o = true) :
    ∀ (l : List Oper) (k : Nat) {M : Mp} {w : World} {s s' : St} {a : Act} {e : Exit}, ops.toList.drop k = l → HR N0 W0 M s.H w → SR M N s a → prot ≤ s.H.length →
      evOps fn P cl dq prot ops l s = some (e, s') → wpOps P ops (Post N0 W0 prot N M w s' e) (List.range' k l.length) a w
  | [], k, M, w, s, s', a, e, hl, hH, hS, hp, h => by
    cases h
    exact ⟨M, .refl _, hH, hS, trivial, .refl _ _ _⟩
  | o :: l, k, M, w, s, s', a, e, hl, hH, hS, hp, h => by
    have hk : ops[k]? = some o := by
      have : (ops.toList.drop k)[0]? = some o := by rw [hl]; rfl
      rw [List.getElem?_drop] at this
      simpa using this
    have hl' : ops.toList.drop (k + 1) = l := by
      have : (ops.toList.drop k).drop 1 = l := by rw [hl]; rfl
      rw [List.drop_drop] at this
      exact this
    have ho : operOk N o = true := hok o (by
      have := List.mem_of_getElem? (l := ops.toList) (i := k) (by simpa using hk)
      exact this)
    rw [List.length_cons, List.range'_succ, wpOps_cons]
    unfold wpOp
    rw [hk]
    simp only
    rw [evOps] at h
    obtain ⟨b, hb, h⟩ := Option.bind_eq_some_iff.1 h
    rw [want_sim (fun d _ => hS.t d) hb]
    cases b with
    | true =>
      simp only [if_true] at h ⊢
      refine .inl ?_
      unfold andThen at h
      obtain ⟨⟨e1, s1⟩, h1, h⟩ := Option.bind_eq_some_iff.1 h
      simp only at h
      have hp1 := (evOp_pre hpre h1 hp).1
      refine evOp_wp hfn hH hS ho h1 hp ?_ ?_
      · rintro rfl a1 w1 ⟨M1, g1, g2, g3, _, g5⟩
        simp only at h
        have := evOps_wp hfn hpre hok l (k + 1) hl' g2 g3 (by omega) h
        exact wpOps_mono (fun e2 a2 w2 hp => hp.trans g1 g5) this
      · intro e2 a2 w2 hne hp
        have : e = e1 ∧ s' = s1 := by
          split at h
          · exact absurd rfl hne
          · cases h; exact ⟨rfl, rfl⟩
        obtain ⟨rfl, rfl⟩ := this
        exact hp
    | false =>
      simp only [Bool.false_eq_true, if_false] at h ⊢
      exact evOps_wp hfn hpre hok l (k + 1) hl' (by rw [St.put_H]; exact hH) (hS.put (operOk_ops ho).2 vr_undef_self) (by rw [St.put_H]; exact hp) h
end Go.AM

namespace Go.AM
open Go
open Go.RowKit (Below)
variable {P : Program} {N0 : Nat} {W0 : World}
theorem bef_go : ∀ (l : List Oper) (acc : List Nat) (ops : List Oper) (n : Nat), ops.drop n = l → acc.length = n → n + l.length = ops.length →
    (∀ j i, (acc.getD j 0).testBit i = true → ∃ o, ops[j]? = some o ∧ ∃ e ∈ o.after.toList, Region.binds .any e = true ∧ (e.on = i ∨ (acc.getD e.on 0).testBit i = true)) →
    ∀ j i, ((befGo l acc).getD j 0).testBit i = true → ∃ o, ops[j]? = some o ∧ ∃ e ∈ o.after.toList, Region.binds .any e = true ∧ (e.on = i ∨ ((befGo l acc).getD e.on 0).testBit i = true)
  | [], acc, ops, n, _, _, _, h => h
  | o :: l, acc, ops, n, hd, hn, hlen, h => by
    have fold : ∀ (es : List Edge) (s : Nat) (i : Nat), (es.foldl (fun s e => if Region.binds .any e = true then s ||| 2 ^ e.on ||| acc.getD e.on 0 else s) s).testBit i = true →
        s.testBit i = true ∨ ∃ e ∈ es, Region.binds .any e = true ∧ (e.on = i ∨ (acc.getD e.on 0).testBit i = true) := by
      intro es
      induction es with
      | nil => intro s i hi; exact .inl hi
      | cons e es ih =>
        intro s i hi
        rcases ih _ _ hi with h1 | ⟨e', h1, h2⟩
        · simp only at h1
          split at h1
          · rename_i hb
            simp only [Nat.testBit_or, Bool.or_eq_true] at h1
            rcases h1 with (h1 | h1) | h1
            · exact .inl h1
            · rw [Nat.testBit_two_pow] at h1
              exact .inr ⟨e, by simp, hb, .inl (by simpa using h1)⟩
            · exact .inr ⟨e, by simp, hb, .inr h1⟩
          · exact .inl h1
        · exact .inr ⟨e', by simp [h1], h2⟩
    have hgo : befGo (o :: l) acc = befGo l (acc ++ [o.after.toList.foldl (fun s e => if Region.binds .any e = true then s ||| 2 ^ e.on ||| acc.getD e.on 0 else s) 0]) := by
      rw [befGo]; split <;> rename_i hh <;> rw [hh]
    rw [hgo]
    have hget : ∀ j, (acc ++ [o.after.toList.foldl (fun s e => if Region.binds .any e = true then s ||| 2 ^ e.on ||| acc.getD e.on 0 else s) 0]).getD j 0 =
        if j < n then acc.getD j 0 else if j = n then o.after.toList.foldl (fun s e => if Region.binds .any e = true then s ||| 2 ^ e.on ||| acc.getD e.on 0 else s) 0 else 0 := by
      intro j
      simp only [List.getD_eq_getElem?_getD, List.getElem?_append, hn]
      split
      · rfl
      · split
        · rename_i h1; subst h1; simp
        · rename_i h1 h2
          have : j - n ≠ 0 := by omega
          simp [this]
    have hup : ∀ j i, (acc.getD j 0).testBit i = true → ((acc ++ [o.after.toList.foldl (fun s e => if Region.binds .any e = true then s ||| 2 ^ e.on ||| acc.getD e.on 0 else s) 0]).getD j 0).testBit i = true := by
      intro j i hji
      rw [hget]
      by_cases hj : j < n
      · rw [if_pos hj]; exact hji
      · rw [List.getD_eq_getElem?_getD, List.getElem?_eq_none (by omega)] at hji
        simp at hji
    have hon : ops[n]? = some o := by
      have : (ops.drop n)[0]? = some o := by rw [hd]; rfl
      rw [List.getElem?_drop] at this
      simpa using this
    refine bef_go l _ ops (n + 1) ?_ (by simp [hn]) (by simp at hlen; omega) ?_
    · have : (ops.drop n).drop 1 = l := by rw [hd]; rfl
      rwa [List.drop_drop] at this
    · intro j i hji
      have hji' := hji
      rw [hget] at hji'
      split at hji'
      · obtain ⟨o', h1, e, h2, h3, h4⟩ := h j i hji'
        exact ⟨o', h1, e, h2, h3, h4.imp id (hup _ _)⟩
      · split at hji'
        · rename_i h1; subst h1
          rcases fold _ _ _ hji' with h1 | ⟨e, h1, h2, h3⟩
          · simp at h1
          · exact ⟨o, hon, e, h1, h2, h3.imp id (hup _ _)⟩
        · simp at hji'
theorem bef_spec {ops : Array Oper} {j i : Nat} (h : ((bef ops).getD j 0).testBit i = true) : ∃ o, ops[j]? = some o ∧ ∃ e ∈ o.after.toList, Region.binds .any e = true ∧ (e.on = i ∨ ((bef ops).getD e.on 0).testBit i = true) := by
  obtain ⟨o, h1, h2⟩ := bef_go ops.toList [] ops.toList 0 (by simp) rfl (by simp) (fun j i h => by simp at h) j i h
  exact ⟨o, by simpa using h1, h2⟩
def Closed (ops : Array Oper) (L : Nat → Prop) : Prop := ∀ j o, L j → ops[j]? = some o → ∀ e ∈ o.after.toList, Region.binds .any e = true → L e.on
def Ready (ops : Array Oper) (L : Nat → Prop) (j : Nat) : Prop := ∀ o, ops[j]? = some o → ∀ e ∈ o.after.toList, Region.binds .any e = true → L e.on
theorem regOk_facts {cl : FuncId → Nat} {fl : Bool} {ops : Array Oper} (h : regOk cl fl ops = true) : (∀ j o, ops[j]? = some o → ∀ e ∈ o.after.toList, Region.binds .any e = true → e.on < j) ∧
    ∀ i j oi oj, i < j → ops[i]? = some oi → ops[j]? = some oj → ((bef ops).getD j 0).testBit i = true ∨ pairOk cl fl ops oi oj = true := by
  unfold regOk at h
  simp only [List.all_eq_true, List.mem_range] at h
  constructor
  · intro j o hj e he hb
    have hlt := (Array.getElem?_eq_some_iff.1 hj).1
    have := h j hlt
    rw [hj] at this
    simp only [Bool.and_eq_true, List.all_eq_true] at this
    have := this.1 e he
    simpa [hb] using this
  · intro i j oi oj hij hi hj
    have hlt := (Array.getElem?_eq_some_iff.1 hj).1
    have := h j hlt
    rw [hj] at this
    simp only [Bool.and_eq_true, List.all_eq_true, List.mem_range] at this
    have := this.2 i hij
    rw [hi] at this
    simpa using this
theorem before_in {cl : FuncId → Nat} {fl : Bool} {ops : Array Oper} {L : Nat → Prop} (h : regOk cl fl ops = true) (hC : Closed ops L) : ∀ (j : Nat), Ready ops L j → ∀ i, ((bef ops).getD j 0).testBit i = true → L i := by
  intro j
  induction j using Nat.strongRecOn with
  | _ j ih =>
    intro hR i hi
    obtain ⟨o, ho, e, he, hb, hh⟩ := bef_spec hi
    have hL := hR o ho e he hb
    rcases hh with rfl | hh
    · exact hL
    · exact ih e.on ((regOk_facts h).1 j o ho e he hb) (fun o' ho' e' he' hb' => hC _ _ hL ho' e' he' hb') i hh
theorem done_before {cl : FuncId → Nat} {fl : Bool} {ops : Array Oper} {L : Nat → Prop} (h : regOk cl fl ops = true) (hC : Closed ops L) {i j : Nat} {oi oj : Oper} (hij : i < j) (hi : ops[i]? = some oi) (hj : ops[j]? = some oj)
    (hp : pairOk cl fl ops oi oj = false) (hL : Ready ops L j) : L i := by
  rcases (regOk_facts h).2 i j oi oj hij hi hj with h1 | h1
  · exact before_in h hC j hL i h1
  · rw [hp] at h1; cases h1
theorem Closed.ready {ops : Array Oper} {L : Nat → Prop} (hC : Closed ops L) {j : Nat} (h : L j) : Ready ops L j := fun o ho e he hb => hC j o h ho e he hb
theorem pair_dst {cl : FuncId → Nat} {fl : Bool} {ops : Array Oper} {oi oj : Oper} {t : Tmp} (hi : oi.dst = some t) (hj : oj.dst = some t) : pairOk cl fl ops oi oj = false := by
  cases h : pairOk cl fl ops oi oj with
  | false => rfl
  | true =>
    unfold pairOk at h
    simp only [Bool.and_eq_true] at h
    exact absurd hj ((Oper.apart_spec h.1).2.1 t hi)
theorem pair_reads {cl : FuncId → Nat} {fl : Bool} {ops : Array Oper} {oi oj : Oper} {t : Tmp} (hi : oi.dst = some t) (hj : t ∈ oj.looksAt ops) : pairOk cl fl ops oi oj = false := by
  cases h : pairOk cl fl ops oi oj with
  | false => rfl
  | true =>
    unfold pairOk at h
    simp only [Bool.and_eq_true] at h
    exact absurd hj ((Oper.apart_spec h.1).1 t hi)
theorem pair_reads' {cl : FuncId → Nat} {fl : Bool} {ops : Array Oper} {oi oj : Oper} {t : Tmp} (hi : oj.dst = some t) (hj : t ∈ oi.looksAt ops) : pairOk cl fl ops oi oj = false := by
  cases h : pairOk cl fl ops oi oj with
  | false => rfl
  | true =>
    unfold pairOk at h
    simp only [Bool.and_eq_true] at h
    exact absurd hj ((Oper.apart_spec h.1).2.2 t hi)
theorem pair_class {cl : FuncId → Nat} {fl : Bool} {ops : Array Oper} {oi oj : Oper} (h1 : ¬ (opClass cl oi.op ≤ 1 ∧ opClass cl oj.op ≤ 1)) (hi : opClass cl oi.op ≠ 0) (hj : opClass cl oj.op ≠ 0) (hl : ¬ (fl = true ∧ isLd oi.op = true ∧ oi.dst.isSome = true)) : pairOk cl fl ops oi oj = false := by
  cases h : pairOk cl fl ops oi oj with
  | false => rfl
  | true =>
    unfold pairOk at h
    simp only [Bool.and_eq_true, Bool.or_eq_true, decide_eq_true_eq, beq_iff_eq] at h
    rcases h.2 with h | h
    · omega
    · exact absurd ⟨h.1.1, h.1.2, h.2⟩ hl
def cut (M : Mp) (l : Nat) : Mp := fun A n => if A < l then M A n else none
theorem cut_le (M : Mp) (l : Nat) : Mle (cut M l) M := fun A n x h => by unfold cut at h; split at h <;> first | exact h | cases h
theorem cut_mono {M M' : Mp} {l l' : Nat} (hM : Mle M M') (hl : l ≤ l') : Mle (cut M l) (cut M' l') := fun A n x h => by
  unfold cut at h ⊢
  split at h
  · rw [if_pos (by omega)]; exact hM _ _ _ h
  · cases h
theorem cut_all {M : Mp} {l : Nat} (h : ∀ A n x, M A n = some x → A < l) : cut M l = M := by
  funext A n
  unfold cut
  split
  · rfl
  · cases e : M A n with
    | none => rfl
    | some x => exact absurd (h _ _ _ e) (by omega)
theorem cut_some {M : Mp} {l A n : Nat} {x : Nat × Nat × Nat} (h : cut M l A n = some x) : A < l ∧ M A n = some x := by
  unfold cut at h
  split at h
  · exact ⟨by assumption, h⟩
  · cases h
theorem HR.swap {M : Mp} {H H' : Heap} {w : World} (h : HR N0 W0 M H w) (hh : ∀ A n x, M A n = some x → H'[A]? = H[A]?) : HR N0 W0 M H' w :=
  ⟨h.below, h.n0, fun A n b base ext e => by
    obtain ⟨B, hB, he⟩ := h.ent _ _ _ _ _ e
    exact ⟨B, by rw [hh _ _ _ e]; exact hB, he⟩, h.apart⟩
section
variable {cl : FuncId → Nat} {fl : Bool} {fn : Fn'} {prot N : Nat} {ops : Array Oper} {S : Nat → St}
def Stp (fn : Fn') (P : Program) (cl : FuncId → Nat) (prot : Nat) (ops : Array Oper) (o : Oper) (s s' : St) : Prop :=
  (wantT ops s.t o = some true ∧ evOp fn P cl true prot o.op o.dst s = some (.normal, s')) ∨ (wantT ops s.t o = some false ∧ s' = s.put o.dst undef)
theorem trace : ∀ (l : List Oper) (k : Nat) (s s' : St), ops.toList.drop k = l → evOps fn P cl true prot ops l s = some (.normal, s') →
    ∃ S : Nat → St, S k = s ∧ S (k + l.length) = s' ∧ ∀ i o, k ≤ i → ops[i]? = some o → Stp fn P cl prot ops o (S i) (S (i + 1))
  | [], k, s, s', hl, h => by
    cases h
    refine ⟨fun _ => s, rfl, rfl, fun i o hi ho => ?_⟩
    have hlt := (Array.getElem?_eq_some_iff.1 ho).1
    have : ops.toList.length ≤ k := by simpa using hl
    simp at this
    omega
  | o :: l, k, s, s', hl, h => by
    have hk : ops[k]? = some o := by
      have : (ops.toList.drop k)[0]? = some o := by rw [hl]; rfl
      rw [List.getElem?_drop] at this
      simpa using this
    have hl' : ops.toList.drop (k + 1) = l := by
      have : (ops.toList.drop k).drop 1 = l := by rw [hl]; rfl
      rw [List.drop_drop] at this
      exact this
    have key : ∃ s1, Stp fn P cl prot ops o s s1 ∧ evOps fn P cl true prot ops l s1 = some (.normal, s') := by
      rw [evOps] at h
      obtain ⟨b, hb, h⟩ := Option.bind_eq_some_iff.1 h
      cases b with
      | true =>
        simp only [if_true] at h
        unfold andThen at h
        obtain ⟨⟨e1, s1⟩, h1, h⟩ := Option.bind_eq_some_iff.1 h
        simp only at h
        split at h
        · exact ⟨s1, .inl ⟨hb, h1⟩, h⟩
        · rename_i hne; cases h; exact absurd rfl hne
      | false =>
        simp only [Bool.false_eq_true, if_false] at h
        exact ⟨_, .inr ⟨hb, rfl⟩, h⟩
    obtain ⟨s1, h1, h2⟩ := key
    obtain ⟨S, hS1, hS2, hS3⟩ := trace l (k + 1) s1 s' hl' h2
    refine ⟨fun i => if i = k then s else S i, by simp, ?_, fun i o' hi ho' => ?_⟩
    · simp only [List.length_cons]
      rw [if_neg (by omega), ← hS2]
      congr 1; omega
    · by_cases hik : i = k
      · subst hik
        rw [hk] at ho'; cases ho'
        simp only [if_true]
        rw [if_neg (by omega), hS1]
        exact h1
      · simp only [if_neg hik]
        rw [if_neg (by omega)]
        exact hS3 i o' (by omega) ho'
theorem quiet_defer {dq : Bool} {ρ : Operand → Value} {op : Op} {H H1 : Heap} {d : Deferred} (hr : aexec P cl dq prot ρ op H = some (.ok (.defer d), H1)) : ¬ opClass cl op ≤ 1 := by
  cases op <;> simp only [aexec] at hr <;> first | (cases hr; done) | skip
  case defer c => simp [opClass]
  case call c =>
    exfalso
    simp only [acall] at hr
    split at hr
    · unfold abuiltin at hr
      split at hr
      all_goals first
        | (cases hr; done)
        | (split at hr <;> first | (cases hr; done) | (first | (obtain ⟨_, _, e, _⟩ := vR_some hr; cases e) | (obtain ⟨_, _, e⟩ := vH_some hr; cases e)))
        | (obtain ⟨_, _, e⟩ := vH_some hr; cases e)
    · split at hr
      · split at hr <;> cases hr
      · cases hr
    · cases hr
  all_goals exfalso
  all_goals first
    | (obtain ⟨_, _, e, _⟩ := vR_some hr; cases e; done)
    | (obtain ⟨_, _, e⟩ := vH_some hr; cases e; done)
    | (obtain ⟨_, e⟩ := uH_some hr; cases e; done)
    | (obtain ⟨_, _, e⟩ := Option.map_eq_some_iff.1 hr; cases e; done)
    | (split at hr <;> cases hr; done)
    | (split at hr <;> first | (cases hr; done) | (split at hr <;> cases hr; done))
    | (split at hr <;> first | (cases hr; done) | (obtain ⟨_, _, e⟩ := vH_some hr; cases e))
theorem evOp_tds {dq : Bool} {o : Oper} {s s' : St} {e : Exit} (h : evOp fn P cl dq prot o.op o.dst s = some (e, s')) : (∀ t, o.dst ≠ some t → s'.t t = s.t t) ∧ (opClass cl o.op ≤ 1 → s'.ds = s.ds) := by
  have hput : ∀ (s : St) (v : Value) (t : Tmp), o.dst ≠ some t → (s.put o.dst v).t t = s.t t := by
    intro s v t ht
    cases hd : o.dst with
    | none => rfl
    | some d =>
      simp only [St.put, upd]
      rw [if_neg]
      rintro rfl
      exact ht hd
  have hds : ∀ (s : St) (v : Value), (s.put o.dst v).ds = s.ds := fun s v => by cases o.dst <;> rfl
  unfold evOp at h
  obtain ⟨⟨r, H1⟩, hr, h⟩ := Option.bind_eq_some_iff.1 h
  simp only at h
  split at h
  · cases h; exact ⟨fun t ht => hput s _ t ht, fun _ => hds s _⟩
  · cases h; exact ⟨fun t ht => hput s _ t ht, fun _ => hds s _⟩
  · cases h
    refine ⟨fun t ht => hput { s with ds := _ } _ t ht, fun hc => ?_⟩
    exact absurd hc (quiet_defer hr)
  · obtain ⟨⟨e1, H2⟩, hq, h3⟩ := Option.bind_eq_some_iff.1 h
    simp only at h3
    split at h3
    · cases h3; exact ⟨fun t ht => hput s _ t ht, fun _ => hds s _⟩
    · cases h3; exact ⟨fun t ht => rfl, fun _ => rfl⟩
    · cases h3
  · cases h; exact ⟨fun t ht => rfl, fun _ => rfl⟩
  · cases h
theorem evOp_quiet (hpre : FnPre cl fn) {o : Oper} {s s' : St} {e : Exit} (h : evOp fn P cl true prot o.op o.dst s = some (e, s')) (hp : prot ≤ s.H.length) (hc : opClass cl o.op ≤ 1) : Pr s.H.length s.H s'.H := by
  unfold evOp at h
  obtain ⟨⟨r, H1⟩, hr, h⟩ := Option.bind_eq_some_iff.1 h
  have h1 := (aexec_pre hr hp fun _ => rfl).2 hc
  simp only at h
  split at h
  · cases h; exact h1
  · cases h; exact h1
  · cases h; exact h1
  · obtain ⟨⟨e1, H2⟩, hq, h3⟩ := Option.bind_eq_some_iff.1 h
    have hf := quiet_enter rfl hr hc
    obtain ⟨k1, k2⟩ := hpre _ _ _ _ _ _ hq (by have := h1.1; omega)
    rw [if_pos hf] at k2
    have : Pr s.H.length H1 H2 := ⟨k1, fun A hA => k2 A (by have := h1.1; omega)⟩
    simp only at h3
    split at h3
    · cases h3; exact h1.trans this
    · cases h3; exact h1.trans this
    · cases h3
  · cases h; exact h1
  · cases h
theorem Stp.tds {o : Oper} {s s' : St} (h : Stp fn P cl prot ops o s s') : (∀ t, o.dst ≠ some t → s'.t t = s.t t) ∧ (opClass cl o.op ≤ 1 → s'.ds = s.ds) := by
  rcases h with ⟨_, h⟩ | ⟨_, rfl⟩
  · exact evOp_tds h
  · refine ⟨fun t ht => ?_, fun _ => by cases o.dst <;> rfl⟩
    cases hd : o.dst with
    | none => rfl
    | some d =>
      simp only [St.put, upd]
      rw [if_neg]
      rintro rfl
      exact ht hd
theorem Stp.quiet (hpre : FnPre cl fn) {o : Oper} {s s' : St} (h : Stp fn P cl prot ops o s s') (hp : prot ≤ s.H.length) (hc : opClass cl o.op ≤ 1) : Pr s.H.length s.H s'.H := by
  rcases h with ⟨_, h⟩ | ⟨_, rfl⟩
  · exact evOp_quiet hpre h hp hc
  · rw [St.put_H]; exact .refl _ _
theorem Stp.pre (hpre : FnPre cl fn) {o : Oper} {s s' : St} (h : Stp fn P cl prot ops o s s') (hp : prot ≤ s.H.length) : Pr prot s.H s'.H := by
  rcases h with ⟨_, h⟩ | ⟨_, rfl⟩
  · exact evOp_pre hpre h hp
  · rw [St.put_H]; exact .refl _ _
def Wk (cl : FuncId → Nat) (prot : Nat) (o : Oper) (s s' : St) : Prop :=
  Pr prot s.H s'.H ∧ (∀ t, o.dst ≠ some t → s'.t t = s.t t) ∧ (opClass cl o.op ≤ 1 → s'.ds = s.ds ∧ Pr s.H.length s.H s'.H)
def Okf (fl : Bool) (cl : FuncId → Nat) (ops : Array Oper) (o : Oper) (s s' : St) : Prop := fl = true → wantT ops s.t o = some false ∨ okF cl o (.normal, s') = true
theorem Okf.of {o : Oper} {s s' : St} (h : fl = true → okF cl o (.normal, s') = true) : Okf fl cl ops o s s' := fun hf => .inr (h hf)
theorem Okf.not {o : Oper} {s s' : St} (h : wantT ops s.t o = some false) : Okf fl cl ops o s s' := fun _ => .inl h
theorem ldA_keep {H H' : Heap} {T : TypeId} {x v : Value} (h : ldA P H T x = some v) (hp : Pr H.length H H') : ldA P H' T x = some v := by
  unfold ldA at h ⊢
  split at h
  · rename_i A off n
    unfold ldv at h
    obtain ⟨k, hk, h⟩ := Option.bind_eq_some_iff.1 h
    obtain ⟨cs, hr, h⟩ := Option.bind_eq_some_iff.1 h
    have hr' : rd H' A off n k = some cs := by
      by_cases hA : A < H.length
      · unfold rd at hr ⊢; rw [hp.2 A hA]; exact hr
      · unfold rd at hr
        rw [List.getElem?_eq_none (by omega)] at hr
        cases hr
    show ldv P H' T A off n = some v
    unfold ldv
    rw [hk]
    simp only [Option.bind_some]
    rw [hr']
    exact h
  · cases h
theorem mayW_class {o : Op} (h : mayW o = false) : opClass cl o ≤ 1 := by
  cases o <;> first | (cases h; done) | (simp [opClass]; done)
theorem evOp_load {T : TypeId} {x : Operand} {d : Option Nat} {s s1 : St} {e : Exit} (h : evOp fn P cl true prot (.load T x) d s = some (e, s1)) : ∃ v, ldA P s.H T (s.eval x) = some v ∧ s1 = s.put d v ∧ e = .normal := by
  unfold evOp at h
  obtain ⟨⟨r, H1⟩, hr, h⟩ := Option.bind_eq_some_iff.1 h
  simp only [aexec] at hr
  obtain ⟨v, hv, rfl, rfl⟩ := vR_some hr
  cases h
  exact ⟨v, hv, by cases d <;> rfl, rfl⟩
theorem chkF.keep {pend : Pend} {H H' : Heap} (h : chkF P pend H) (hp : Pr H.length H H') : chkF P pend H' := fun q hq => ldA_keep (h q hq) hp
theorem traceF (hpre : FnPre cl fn) : ∀ (l : List Oper) (k : Nat) (pend : Pend) (s s' : St), ops.toList.drop k = l → k ≤ ops.size → prot ≤ s.H.length → chkF P pend s.H → fltGo fn P cl prot ops l pend s = some (.normal, s') →
    ∃ S : Nat → St, S k = s ∧ S (k + l.length) = s' ∧ (∀ i o, k ≤ i → ops[i]? = some o → Stp fn P cl prot ops o (S i) (S (i + 1))) ∧ (∀ p, k ≤ p → p ≤ ops.size → chkF P pend (S p).H) ∧
      ∀ j o T x d, k ≤ j → ops[j]? = some o → o.op = .load T x → o.dst = some d → wantT ops (S j).t o = some true → ground ((S (j + 1)).t d) = true ∧ ∀ p, j < p → p ≤ ops.size → ldA P (S p).H T ((S j).eval x) = some ((S (j + 1)).t d)
  | [], k, pend, s, s', hl, hk, _, hc, h => by
    cases h
    have hend : ∀ i o, k ≤ i → ops[i]? = some o → False := fun i o hi ho => by
      have hlt := (Array.getElem?_eq_some_iff.1 ho).1
      have : ops.toList.length ≤ k := by simpa using hl
      simp at this
      omega
    exact ⟨fun _ => s, rfl, rfl, fun i o hi ho => (hend i o hi ho).elim, fun p _ _ => hc, fun j o T x d hj ho => (hend j o hj ho).elim⟩
  | o :: l, k, pend, s, s', hl, _, hp, hc, h => by
    have hk : ops[k]? = some o := by
      have : (ops.toList.drop k)[0]? = some o := by rw [hl]; rfl
      rw [List.getElem?_drop] at this
      simpa using this
    have hklt := (Array.getElem?_eq_some_iff.1 hk).1
    have hl' : ops.toList.drop (k + 1) = l := by
      have : (ops.toList.drop k).drop 1 = l := by rw [hl]; rfl
      rw [List.drop_drop] at this
      exact this
    have key : ∃ s1 pend', Stp fn P cl prot ops o s s1 ∧ prot ≤ s1.H.length ∧ chkF P pend' s1.H ∧ (∀ q ∈ pend, q ∈ pend') ∧ fltGo fn P cl prot ops l pend' s1 = some (.normal, s') ∧
        ∀ T x d, o.op = .load T x → o.dst = some d → wantT ops s.t o = some true → ground (s1.t d) = true ∧ (T, s.eval x, s1.t d) ∈ pend' := by
      rw [fltGo] at h
      obtain ⟨b, hb, h⟩ := Option.bind_eq_some_iff.1 h
      cases b with
      | true =>
        simp only [if_true] at h
        obtain ⟨⟨e1, s1⟩, h1, h⟩ := Option.bind_eq_some_iff.1 h
        simp only at h
        split at h
        · have hpr := evOp_pre hpre h1 hp
          obtain ⟨pend', h2, hh⟩ := fltNext_some h
          refine ⟨s1, pend', .inl ⟨hb, h1⟩, by have := hpr.1; omega, ?_, ?_, h2, ?_⟩
          · rcases hh with ⟨T, x, d, e1, e2, e3, rfl⟩ | ⟨rfl, hw, hno⟩
            · rw [e1] at h1
              obtain ⟨v, g1, g2, _⟩ := evOp_load h1
              subst g2
              intro q hq
              rcases List.mem_cons.1 hq with rfl | hq
              · simp only [St.put_H, e2, St.put, upd, if_true]
                exact g1
              · rw [St.put_H]; exact hc q hq
            · cases hm : mayW o.op with
              | true => exact hw hm
              | false => exact hc.keep (evOp_quiet hpre h1 hp (mayW_class hm))
          · rcases hh with ⟨T, x, d, e1, e2, e3, rfl⟩ | ⟨rfl, hw, hno⟩
            · exact fun q hq => List.mem_cons_of_mem _ hq
            · exact fun q hq => hq
          · intro T x d e1 e2 _
            rcases hh with ⟨T', x', d', e1', e2', e3, rfl⟩ | ⟨rfl, hw, hno⟩
            · rw [e1] at e1'
              cases e1'
              rw [e2] at e2'
              cases e2'
              exact ⟨e3, List.mem_cons_self ..⟩
            · exact absurd e2 (hno T x d e1)
        · cases h
      | false =>
        simp only [Bool.false_eq_true, if_false] at h
        exact ⟨_, pend, .inr ⟨hb, rfl⟩, by rw [St.put_H]; exact hp, by rw [St.put_H]; exact hc, fun q hq => hq, h, fun T x d _ _ hw => by rw [hb] at hw; cases hw⟩
    obtain ⟨s1, pend', g1, g2, g3, g4, g5, g6⟩ := key
    obtain ⟨S, hS1, hS2, hS3, hS4, hS5⟩ := traceF hpre l (k + 1) pend' s1 s' hl' (by omega) g2 g3 g5
    refine ⟨fun i => if i = k then s else S i, by simp, ?_, fun i o' hi ho' => ?_, fun p hp1 hp2 => ?_, fun j o' T x d hj ho' e1 e2 hw => ?_⟩
    · simp only [List.length_cons]
      rw [if_neg (by omega), ← hS2]
      congr 1; omega
    · by_cases hik : i = k
      · subst hik
        rw [hk] at ho'; cases ho'
        simp only [if_true]
        rw [if_neg (by omega), hS1]
        exact g1
      · simp only [if_neg hik]
        rw [if_neg (by omega)]
        exact hS3 i o' (by omega) ho'
    · by_cases hpk : p = k
      · subst hpk; simp only [if_true]; exact hc
      · simp only [if_neg hpk]
        exact fun q hq => hS4 p (by omega) hp2 q (g4 q hq)
    · by_cases hjk : j = k
      · subst hjk
        rw [hk] at ho'; cases ho'
        simp only [if_true] at hw ⊢
        rw [if_neg (by omega), hS1]
        obtain ⟨k1, k2⟩ := g6 T x d e1 e2 hw
        refine ⟨k1, fun p hp1 hp2 => ?_⟩
        rw [if_neg (by omega)]
        exact hS4 p (by omega) hp2 _ k2
      · simp only [if_neg hjk] at hw ⊢
        rw [if_neg (by omega)]
        obtain ⟨k1, k2⟩ := hS5 j o' T x d (by omega) ho' e1 e2 hw
        refine ⟨k1, fun p hp1 hp2 => ?_⟩
        rw [if_neg (by omega)]
        exact k2 p hp1 hp2
theorem traceR {j : Nat} : ∀ (l : List Oper) (k : Nat) (s s' : St), ops.toList.drop k = l → evRest fl fn P cl prot ops j l k s = some s' →
    ∃ S : Nat → St, S k = s ∧ S (k + l.length) = s' ∧ ∀ i o, k ≤ i → ops[i]? = some o → (((bef ops).getD i 0).testBit j = true ∧ S (i + 1) = S i) ∨ (((bef ops).getD i 0).testBit j = false ∧ opClass cl o.op ≤ 1 ∧ Stp fn P cl prot ops o (S i) (S (i + 1)) ∧ Okf fl cl ops o (S i) (S (i + 1)))
  | [], k, s, s', hl, h => by
    cases h
    refine ⟨fun _ => s, rfl, rfl, fun i o hi ho => ?_⟩
    have hlt := (Array.getElem?_eq_some_iff.1 ho).1
    have : ops.toList.length ≤ k := by simpa using hl
    simp at this
    omega
  | o :: l, k, s, s', hl, h => by
    have hk : ops[k]? = some o := by
      have : (ops.toList.drop k)[0]? = some o := by rw [hl]; rfl
      rw [List.getElem?_drop] at this
      simpa using this
    have hl' : ops.toList.drop (k + 1) = l := by
      have : (ops.toList.drop k).drop 1 = l := by rw [hl]; rfl
      rw [List.drop_drop] at this
      exact this
    have key : ∃ s1, ((((bef ops).getD k 0).testBit j = true ∧ s1 = s) ∨ (((bef ops).getD k 0).testBit j = false ∧ opClass cl o.op ≤ 1 ∧ Stp fn P cl prot ops o s s1 ∧ Okf fl cl ops o s s1)) ∧ evRest fl fn P cl prot ops j l (k + 1) s1 = some s' := by
      rw [evRest] at h
      split at h
      · rename_i hb
        exact ⟨s, .inl ⟨hb, rfl⟩, h⟩
      · rename_i hb
        have hb' : ((bef ops).getD k 0).testBit j = false := by simpa using hb
        split at h
        · rename_i hc
          obtain ⟨b, hbb, h⟩ := Option.bind_eq_some_iff.1 h
          cases b with
          | true =>
            simp only [if_true] at h
            obtain ⟨⟨e1, s1⟩, h1, h⟩ := Option.bind_eq_some_iff.1 h
            simp only at h
            split at h
            · exact ⟨s1, .inr ⟨hb', hc, .inl ⟨hbb, (evOpF_some h1).1⟩, .of (evOpF_some h1).2⟩, h⟩
            · cases h
          | false =>
            simp only [Bool.false_eq_true, if_false] at h
            exact ⟨_, .inr ⟨hb', hc, .inr ⟨hbb, rfl⟩, .not hbb⟩, h⟩
        · cases h
    obtain ⟨s1, h1, h2⟩ := key
    obtain ⟨S, hS1, hS2, hS3⟩ := traceR l (k + 1) s1 s' hl' h2
    refine ⟨fun i => if i = k then s else S i, by simp, ?_, fun i o' hi ho' => ?_⟩
    · simp only [List.length_cons]
      rw [if_neg (by omega), ← hS2]
      congr 1; omega
    · by_cases hik : i = k
      · subst hik
        rw [hk] at ho'; cases ho'
        simp only [if_true]
        rw [if_neg (by omega), hS1]
        rcases h1 with ⟨g1, g2⟩ | h1
        · exact .inl ⟨g1, g2⟩
        · exact .inr h1
      · simp only [if_neg hik]
        rw [if_neg (by omega)]
        exact hS3 i o' (by omega) ho'
def Pan (fl : Bool) (fn : Fn') (P : Program) (cl : FuncId → Nat) (prot : Nat) (ops : Array Oper) (k : Nat) (s s' : St) (e : Exit) : Prop :=
    ∃ (S : Nat → St) (ch : List PanicEntry) (j : Nat) (o : Oper) (sp : St), e = .panic ch ∧ k ≤ j ∧ ops[j]? = some o ∧ S k = s ∧ (∀ i o, k ≤ i → i < j → ops[i]? = some o → Stp fn P cl prot ops o (S i) (S (i + 1)) ∧ Okf fl cl ops o (S i) (S (i + 1))) ∧
      wantT ops (S j).t o = some true ∧ evOp fn P cl true prot o.op o.dst (S j) = some (.panic ch, sp) ∧ (fl = true → opClass cl o.op ≤ 1) ∧ S (j + 1) = sp.put o.dst junk ∧ s' = { S ops.size with t := junkT ops (S ops.size).t } ∧
      ∀ i o, j < i → ops[i]? = some o → (((bef ops).getD i 0).testBit j = true ∧ S (i + 1) = S i) ∨ (((bef ops).getD i 0).testBit j = false ∧ opClass cl o.op ≤ 1 ∧ Stp fn P cl prot ops o (S i) (S (i + 1)) ∧ Okf fl cl ops o (S i) (S (i + 1)))
theorem traceP : ∀ (l : List Oper) (k : Nat) (s s' : St) (e : Exit), ops.toList.drop k = l → evDrop fl fn P cl prot ops l k s = some (e, s') → Pan fl fn P cl prot ops k s s' e
  | [], k, s, s', e, hl, h => by cases h
  | o :: l, k, s, s', e, hl, h => by
    have hk : ops[k]? = some o := by
      have : (ops.toList.drop k)[0]? = some o := by rw [hl]; rfl
      rw [List.getElem?_drop] at this
      simpa using this
    have hl' : ops.toList.drop (k + 1) = l := by
      have : (ops.toList.drop k).drop 1 = l := by rw [hl]; rfl
      rw [List.drop_drop] at this
      exact this
    have hlen : k + 1 + l.length = ops.size := by
      have := congrArg List.length hl
      have hlt := (Array.getElem?_eq_some_iff.1 hk).1
      simp at this
      omega
    have go : ∀ s1, Stp fn P cl prot ops o s s1 ∧ Okf fl cl ops o s s1 → evDrop fl fn P cl prot ops l (k + 1) s1 = some (e, s') → Pan fl fn P cl prot ops k s s' e := fun s1 h1 h2 => by
      obtain ⟨S, ch, j, oj, sp, g1, g2, g3, g4, g5, g6, g7, gq, g8, g9, g10⟩ := traceP l (k + 1) s1 s' e hl' h2
      have hlt := (Array.getElem?_eq_some_iff.1 g3).1
      refine ⟨fun i => if i = k then s else S i, ch, j, oj, sp, g1, by omega, g3, by simp, fun i o' hi hij ho' => ?_, ?_, ?_, gq, ?_, ?_, fun i o' hi ho' => ?_⟩
      · by_cases hik : i = k
        · subst hik
          rw [hk] at ho'; cases ho'
          simp only [if_true]
          rw [if_neg (by omega), g4]
          exact h1
        · simp only [if_neg hik]
          rw [if_neg (by omega)]
          exact g5 i o' (by omega) hij ho'
      · simp only; rw [if_neg (by omega)]; exact g6
      · simp only; rw [if_neg (by omega)]; exact g7
      · simp only; rw [if_neg (by omega)]; exact g8
      · simp only; rw [if_neg (by omega)]; exact g9
      · have := g10 i o' hi ho'
        simp only
        rw [if_neg (by omega), if_neg (by omega)]
        exact this
    rw [evDrop] at h
    obtain ⟨b, hbb, h⟩ := Option.bind_eq_some_iff.1 h
    cases b with
    | true =>
      simp only [if_true] at h
      obtain ⟨⟨e1, s1⟩, h1, h⟩ := Option.bind_eq_some_iff.1 h
      simp only at h
      split at h
      · exact go s1 ⟨.inl ⟨hbb, (evOpF_some h1).1⟩, .of (evOpF_some h1).2⟩ h
      · rename_i ch
        obtain ⟨s2, h2, h⟩ := Option.map_eq_some_iff.1 h
        obtain ⟨S, hS1, hS2, hS3⟩ := traceR l (k + 1) _ s2 hl' h2
        cases h
        refine ⟨fun i => if i = k then s else S i, ch, k, o, s1, rfl, Nat.le_refl _, hk, by simp, fun i o' hi hij => by omega, by simpa using hbb, by simpa using (evOpF_some h1).1, fun hf => by have := (evOpF_some h1).2 hf; unfold okF at this; simp only [Bool.and_eq_true, decide_eq_true_eq] at this; exact this.1, ?_, ?_, fun i o' hi ho' => ?_⟩
        · simp only; rw [if_neg (by omega), hS1]
        · simp only; rw [if_neg (by omega), ← hlen, hS2]
        · have := hS3 i o' (by omega) ho'
          simp only
          rw [if_neg (by omega), if_neg (by omega)]
          exact this
      · cases h
    | false =>
      simp only [Bool.false_eq_true, if_false] at h
      exact go _ ⟨.inr ⟨hbb, rfl⟩, .not hbb⟩ h
end
end Go.AM

namespace Go.AM
open Go
open Go.RowKit (Below)
variable {P : Program} {N0 : Nat} {W0 : World} {cl : FuncId → Nat} {fl : Bool} {fn : Fn'} {prot N : Nat} {ops : Array Oper} {B : Nat → Prop} {S : Nat → St}
theorem isLd_class {o : Op} (h : isLd o = true) : opClass cl o ≤ 1 := by
  cases o <;> first | (cases h; done) | (simp [opClass]; done)
def Seg (cl : FuncId → Nat) (ops : Array Oper) (k p : Nat) : Prop := ∀ i o, k ≤ i → i < p → ops[i]? = some o → opClass cl o.op ≤ 1
structure Txt (N0 : Nat) (W0 : World) (fn : Fn') (P : Program) (cl : FuncId → Nat) (fl : Bool) (prot N : Nat) (ops : Array Oper) (B : Nat → Prop) (S : Nat → St) : Prop where
  stp : ∀ i o, ops[i]? = some o → (¬ B i ∧ Stp fn P cl prot ops o (S i) (S (i + 1))) ∨ (B i ∧ Wk cl prot o (S i) (S (i + 1)))
  reg : regOk cl fl ops = true
  ok : ∀ o ∈ ops.toList, operOk N o = true
  sound : FnSound P N0 W0 cl fn
  pre : FnPre cl fn
  prot0 : prot ≤ (S 0).H.length
  flt : fl = true → ∀ j o T x d, ops[j]? = some o → ¬ B j → o.op = .load T x → o.dst = some d → wantT ops (S j).t o = some true → ground ((S (j + 1)).t d) = true ∧ ∀ p, j < p → p ≤ ops.size → ldA P (S p).H T ((S j).eval x) = some ((S (j + 1)).t d)
variable (T : Txt N0 W0 fn P cl fl prot N ops B S)
include T
theorem Txt.prL {i : Nat} {o : Oper} (ho : ops[i]? = some o) (hp : prot ≤ (S i).H.length) : Pr prot (S i).H (S (i + 1)).H := by
  rcases T.stp i o ho with ⟨_, h⟩ | ⟨_, h⟩
  · exact h.pre T.pre hp
  · exact h.1
theorem Txt.tdsL {i : Nat} {o : Oper} (ho : ops[i]? = some o) : (∀ t, o.dst ≠ some t → (S (i + 1)).t t = (S i).t t) ∧ (opClass cl o.op ≤ 1 → (S (i + 1)).ds = (S i).ds) := by
  rcases T.stp i o ho with ⟨_, h⟩ | ⟨_, h⟩
  · exact h.tds
  · exact ⟨h.2.1, fun hc => (h.2.2 hc).1⟩
theorem Txt.quietL {i : Nat} {o : Oper} (ho : ops[i]? = some o) (hp : prot ≤ (S i).H.length) (hc : opClass cl o.op ≤ 1) : Pr (S i).H.length (S i).H (S (i + 1)).H := by
  rcases T.stp i o ho with ⟨_, h⟩ | ⟨_, h⟩
  · exact h.quiet T.pre hp hc
  · exact (h.2.2 hc).2
theorem Txt.protL : ∀ i, i ≤ ops.size → prot ≤ (S i).H.length
  | 0, _ => T.prot0
  | i + 1, h => by
    have h1 := protL i (by omega)
    have h2 := (T.prL (Array.getElem?_eq_getElem (by omega)) h1).1
    omega
theorem Txt.len1 {i : Nat} (h : i < ops.size) : (S i).H.length ≤ (S (i + 1)).H.length :=
  (T.prL (Array.getElem?_eq_getElem h) (T.protL i (by omega))).1
theorem Txt.len {i k : Nat} (hik : i ≤ k) (hk : k ≤ ops.size) : (S i).H.length ≤ (S k).H.length := by
  induction k with
  | zero => have : i = 0 := by omega
            subst this; exact Nat.le_refl _
  | succ k ih =>
    rcases Nat.lt_or_ge i (k + 1) with h | h
    · exact Nat.le_trans (ih (by omega) (by omega)) (T.len1 (by omega))
    · have : i = k + 1 := by omega
      subst this; exact Nat.le_refl _
theorem Txt.seg {i k : Nat} (hik : i ≤ k) (hk : k ≤ ops.size) (hs : Seg cl ops i k) : Pr (S i).H.length (S i).H (S k).H ∧ (S k).ds = (S i).ds := by
  induction k with
  | zero => have : i = 0 := by omega
            subst this; exact ⟨.refl _ _, rfl⟩
  | succ k ih =>
    rcases Nat.lt_or_ge i (k + 1) with h | h
    · obtain ⟨h1, h2⟩ := ih (by omega) (by omega) fun j o h1 h2 => hs j o h1 (by omega)
      have ho := Array.getElem?_eq_getElem (xs := ops) (i := k) (by omega)
      have hc := hs k _ (by omega) (by omega) ho
      have h3 := T.quietL ho (T.protL k (by omega)) hc
      exact ⟨h1.trans (h3.less h1.1), ((T.tdsL ho).2 hc).trans h2⟩
    · have : i = k + 1 := by omega
      subst this; exact ⟨.refl _ _, rfl⟩
theorem Txt.t {i k : Nat} (hik : i ≤ k) (hk : k ≤ ops.size) {t : Tmp} (hs : ∀ j o, i ≤ j → j < k → ops[j]? = some o → o.dst ≠ some t) : (S k).t t = (S i).t t := by
  induction k with
  | zero => have : i = 0 := by omega
            subst this; rfl
  | succ k ih =>
    rcases Nat.lt_or_ge i (k + 1) with h | h
    · have ho := Array.getElem?_eq_getElem (xs := ops) (i := k) (by omega)
      rw [(T.tdsL ho).1 t (hs k _ (by omega) (by omega) ho)]
      exact ih (by omega) (by omega) fun j o h1 h2 => hs j o h1 (by omega)
    · have : i = k + 1 := by omega
      subst this; rfl
theorem Txt.next : ∀ (m k : Nat), ops.size - k = m → k ≤ ops.size → ∃ p, k ≤ p ∧ p ≤ ops.size ∧ Seg cl ops k p ∧ ∀ o, ops[p]? = some o → ¬ opClass cl o.op ≤ 1
  | 0, k, hm, hk => ⟨k, Nat.le_refl _, hk, fun i o h1 h2 => by omega, fun o ho => by have := (Array.getElem?_eq_some_iff.1 ho).1; omega⟩
  | m + 1, k, hm, hk => by
    have ho := Array.getElem?_eq_getElem (xs := ops) (i := k) (by omega)
    by_cases hc : opClass cl (ops[k]'(by omega)).op ≤ 1
    · obtain ⟨p, h1, h2, h3, h4⟩ := next m (k + 1) (by omega) (by omega)
      refine ⟨p, by omega, h2, fun i o hi hp ho' => ?_, h4⟩
      by_cases hik : i = k
      · subst hik; rw [ho] at ho'; cases ho'; exact hc
      · exact h3 i o (by omega) hp ho'
    · exact ⟨k, Nat.le_refl _, hk, fun i o h1 h2 => by omega, fun o ho' => by rw [ho] at ho'; cases ho'; exact hc⟩
omit T
structure DI (N0 : Nat) (W0 : World) (cl : FuncId → Nat) (prot N : Nat) (ops : Array Oper) (S : Nat → St) (M0 : Mp) (w0 : World) (L : Nat → Prop) (M : Mp) (a : Act) (w : World) (p : Nat) : Prop where
  closed : Closed ops L
  ple : p ≤ ops.size
  pin : ∀ i o, i < p → ops[i]? = some o → ¬ opClass cl o.op ≤ 1 → L i
  pat : ∀ o, ops[p]? = some o → ¬ opClass cl o.op ≤ 1 ∧ ¬ L p
  h0 : ∀ A n x, M A n = some x → A < (S p).H.length
  h2 : ∀ k, k ≤ p → Seg cl ops k p → HR N0 W0 (cut M (S k).H.length) (S p).H w
  h3 : ∀ i, i < p → Seg cl ops i p → ¬ L i → ∀ A n, (S i).H.length ≤ A → A < (S (i + 1)).H.length → M A n = none
  t : ∀ k, k ≤ ops.size → ∀ t, (∀ i o, i < k → ops[i]? = some o → o.dst = some t → L i) → (∀ i o, k ≤ i → ops[i]? = some o → o.dst = some t → ¬ L i) →
    VR (cut M (S k).H.length) ((S k).t t) (a.tmps.getD t undef)
  n : N ≤ a.tmps.size
  d : DL M (S p).ds a.defers
  mle : Mle M0 M
  kp : Kp prot M0 M w0 w
variable {M0 M : Mp} {w0 w : World} {L : Nat → Prop} {a : Act} {p : Nat}
theorem DI.hr (D : DI N0 W0 cl prot N ops S M0 w0 L M a w p) : HR N0 W0 M (S p).H w := by
  have := D.h2 p (Nat.le_refl _) fun i o h1 h2 => by omega
  rwa [cut_all D.h0] at this
theorem DI.reads (T : Txt N0 W0 fn P cl fl prot N ops B S) (D : DI N0 W0 cl prot N ops S M0 w0 L M a w p) {j : Nat} {o : Oper} (hj : ops[j]? = some o) (hr : Ready ops L j) (hn : ¬ L j) {t : Tmp} (ht : t ∈ o.looksAt ops) :
    VR (cut M (S j).H.length) ((S j).t t) (a.tmps.getD t undef) := by
  have hlt := (Array.getElem?_eq_some_iff.1 hj).1
  refine D.t j (by omega) t (fun i oi hi hoi hd => ?_) (fun i oi hi hoi hd hL => ?_)
  · exact done_before T.reg D.closed hi hoi hj (pair_reads hd ht) hr
  · rcases Nat.lt_or_ge j i with h | h
    · exact hn (done_before T.reg D.closed h hj hoi (pair_reads' hd ht) (D.closed.ready hL))
    · have : i = j := by omega
      subst this; exact hn hL
theorem DI.operands (T : Txt N0 W0 fn P cl fl prot N ops B S) (D : DI N0 W0 cl prot N ops S M0 w0 L M a w p) {j : Nat} {o : Oper} (hj : ops[j]? = some o) (hr : Ready ops L j) (hn : ¬ L j) :
    ∀ x ∈ o.op.operands.toList, VR (cut M (S j).H.length) ((S j).eval x) (a.eval x) := by
  intro x hx
  have ho := T.ok o (List.mem_of_getElem? (l := ops.toList) (i := j) (by simpa using hj))
  cases x with
  | tmp t =>
    refine D.reads T hj hr hn ?_
    unfold Oper.looksAt
    exact List.mem_append_left _ (List.mem_filterMap.2 ⟨.tmp t, hx, rfl⟩)
  | const v => exact vr_self ((operOk_ops ho).1 _ hx)
  | global g => simp [St.eval, VR]
  | func f => exact vr_funcC f
theorem DI.tmps (T : Txt N0 W0 fn P cl fl prot N ops B S) (D : DI N0 W0 cl prot N ops S M0 w0 L M a w p) {j : Nat} {o : Oper} (hj : ops[j]? = some o) (hr : Ready ops L j) (hn : ¬ L j) {M2 : Mp} (hM : Mle M M2) {v' : Value} {ds : List Deferred}
    (hv : ∀ d, o.dst = some d → VR (cut M2 (S (j + 1)).H.length) ((S (j + 1)).t d) v') :
    ∀ k, k ≤ ops.size → ∀ t, (∀ i o, i < k → ops[i]? = some o → o.dst = some t → (L i ∨ i = j)) → (∀ i o, k ≤ i → ops[i]? = some o → o.dst = some t → ¬ (L i ∨ i = j)) →
    VR (cut M2 (S k).H.length) ((S k).t t) ((({ a with defers := ds } : Act).put o.dst v').tmps.getD t undef) := by
  have hlt := (Array.getElem?_eq_some_iff.1 hj).1
  have ho := T.ok o (List.mem_of_getElem? (l := ops.toList) (i := j) (by simpa using hj))
  intro k hk t h1 h2
  by_cases hd : o.dst = some t
  · have hjk : j < k := by
      rcases Nat.lt_or_ge j k with h | h
      · exact h
      · exact absurd (.inr rfl) (h2 j o h hj hd)
    have hst : (S k).t t = (S (j + 1)).t t := T.t (by omega) hk fun i oi hi hik hoi hdi => by
      rcases h1 i oi hik hoi hdi with hL | hL
      · exact hn (done_before T.reg D.closed (by omega) hj hoi (pair_dst hd hdi) (D.closed.ready hL))
      · omega
    rw [hst, hd]
    have : t < a.tmps.size := Nat.lt_of_lt_of_le ((operOk_ops ho).2 t hd) D.n
    simp only [Act.put, Array.getD_eq_getD_getElem?, Array.getElem?_setIfInBounds_self_of_lt this, Option.getD_some]
    exact vr_mono (cut_mono (.refl _) (T.len (by omega) hk)) (hv t hd)
  · have : ((({ a with defers := ds } : Act).put o.dst v').tmps.getD t undef) = a.tmps.getD t undef := by
      cases hdd : o.dst with
      | none => rfl
      | some d =>
        simp only [Act.put, Array.getD_eq_getD_getElem?]
        rw [Array.getElem?_setIfInBounds_ne]
        rintro rfl
        exact hd hdd
    rw [this]
    refine vr_mono (cut_mono hM (Nat.le_refl _)) (D.t k hk t (fun i oi hi hoi hdi => ?_) (fun i oi hi hoi hdi hL => h2 i oi hi hoi hdi (.inl hL)))
    rcases h1 i oi hi hoi hdi with hL | rfl
    · exact hL
    · rw [hj] at hoi; cases hoi; exact absurd hdi hd
theorem DI.closed' (D : DI N0 W0 cl prot N ops S M0 w0 L M a w p) {j : Nat} (hr : Ready ops L j) : Closed ops (fun i => L i ∨ i = j) := by
  rintro i o (h | rfl) ho e he hb
  · exact .inl (D.closed i o h ho e he hb)
  · exact .inl (hr o ho e he hb)
theorem act_put_n {a : Act} {N : Nat} (h : N ≤ a.tmps.size) (ds : List Deferred) (d : Option Tmp) (v : Value) : N ≤ (({ a with defers := ds } : Act).put d v).tmps.size := by
  cases d with
  | none => exact h
  | some d => simp [Act.put]; exact h
theorem act_put_d {a : Act} (d : Option Tmp) (v : Value) : (a.put d v).defers = a.defers := by cases d <;> rfl
theorem DI.still (T : Txt N0 W0 fn P cl fl prot N ops B S) (D : DI N0 W0 cl prot N ops S M0 w0 L M a w p) {j : Nat} {o : Oper} (hj : ops[j]? = some o) (hr : Ready ops L j) (hn : ¬ L j) (hc : opClass cl o.op ≤ 1) {v' : Value}
    (hv : ∀ d, o.dst = some d → VR (cut M (S (j + 1)).H.length) ((S (j + 1)).t d) v') :
    DI N0 W0 cl prot N ops S M0 w0 (fun i => L i ∨ i = j) M (a.put o.dst v') w p where
  closed := D.closed' hr
  ple := D.ple
  pin := fun i o hi ho hci => .inl (D.pin i o hi ho hci)
  pat := fun o' ho' => ⟨(D.pat o' ho').1, fun h => by
    rcases h with h | h
    · exact (D.pat o' ho').2 h
    · subst h; rw [hj] at ho'; cases ho'; exact (D.pat o hj).1 hc⟩
  h0 := D.h0
  h2 := D.h2
  h3 := fun i hi hs hL => D.h3 i hi hs fun h => hL (.inl h)
  t := D.tmps T hj hr hn (.refl _) (ds := a.defers) hv
  n := act_put_n D.n a.defers _ _
  d := by rw [act_put_d]; exact D.d
  mle := D.mle
  kp := D.kp
theorem DI.loud (T : Txt N0 W0 fn P cl fl prot N ops B S) (D : DI N0 W0 cl prot N ops S M0 w0 L M a w p) {j : Nat} {o : Oper} (hj : ops[j]? = some o) (hr : Ready ops L j) (hn : ¬ L j) (hjp : j = p) (hc : ¬ opClass cl o.op ≤ 1) {M' : Mp} {w' : World} {v' : Value} {ds : List Deferred}
    (hM : Mle M M') (hH : HR N0 W0 M' (S (p + 1)).H w') (hd : DL M' (S (p + 1)).ds ds) (hk : Kp prot M M' w w')
    (hv : ∀ d, o.dst = some d → VR (cut M' (S (j + 1)).H.length) ((S (j + 1)).t d) v') :
    ∃ p', DI N0 W0 cl prot N ops S M0 w0 (fun i => L i ∨ i = j) M' (({ a with defers := ds } : Act).put o.dst v') w' p' := by
  have hlt := (Array.getElem?_eq_some_iff.1 hj).1
  obtain ⟨p', h1, h2, h3, h4⟩ := T.next _ (p + 1) rfl (by omega)
  obtain ⟨g1, g2⟩ := T.seg h1 h2 h3
  have h0 : ∀ A n x, M' A n = some x → A < (S (p + 1)).H.length := fun A n x e => hH.valid e
  have hge : ∀ k, k ≤ p' → Seg cl ops k p' → p + 1 ≤ k := by
    intro k hk hs
    rcases Nat.lt_or_ge p k with h | h
    · omega
    · exact absurd (hs p o h (by omega) (hjp ▸ hj)) hc
  refine ⟨p', ?_⟩
  exact {
    closed := D.closed' hr
    ple := h2
    pin := fun i oi hi hoi hci => by
      rcases Nat.lt_or_ge i (p + 1) with h | h
      · by_cases hip : i = p
        · exact .inr (by omega)
        · exact .inl (D.pin i oi (by omega) hoi hci)
      · exact absurd (h3 i oi h hi hoi) hci
    pat := fun o' ho' => ⟨h4 o' ho', fun h => by
      rcases h with h | h
      · exact hn (done_before T.reg D.closed (by omega) hj ho' (pair_class (fun hh => hc hh.1) (by omega) (by have := h4 o' ho'; omega) fun hh => hc (isLd_class hh.2.1)) (D.closed.ready h))
      · omega⟩
    h0 := fun A n x e => by have := h0 _ _ _ e; have := g1.1; omega
    h2 := fun k hk hs => by
      have hkk := hge k hk hs
      rw [cut_all fun A n x e => by have := h0 _ _ _ e; have := T.len hkk (by omega); omega]
      exact hH.swap fun A n x e => g1.2 A (h0 _ _ _ e)
    h3 := fun i hi hs _ A n hA _ => by
      have hkk := hge i (by omega) hs
      cases e : M' A n with
      | none => rfl
      | some x =>
        exfalso
        have := h0 _ _ _ e
        have := T.len hkk (by omega)
        omega
    t := D.tmps T hj hr hn hM hv
    n := act_put_n D.n _ _ _
    d := by rw [act_put_d, g2]; exact hd
    mle := D.mle.trans hM
    kp := D.kp.trans hk }
theorem DI.quiet (T : Txt N0 W0 fn P cl fl prot N ops B S) (D : DI N0 W0 cl prot N ops S M0 w0 L M a w p) {j : Nat} {o : Oper} (hj : ops[j]? = some o) (hr : Ready ops L j) (hn : ¬ L j) (hc : opClass cl o.op ≤ 1) (hjp : j < p) (hseg : Seg cl ops j p) {M' : Mp} {w' : World} {v' : Value}
    (hM : Mle (cut M (S j).H.length) M') (hH : HR N0 W0 M' (S (j + 1)).H w') (hx : Ext (S j).H (cut M (S j).H.length) M' w w')
    (hv : ∀ d, o.dst = some d → VR M' ((S (j + 1)).t d) v') :
    ∃ M2, Mle M' M2 ∧ DI N0 W0 cl prot N ops S M0 w0 (fun i => L i ∨ i = j) M2 (a.put o.dst v') w' p := by
  have hlt := (Array.getElem?_eq_some_iff.1 hj).1
  have hl1 := T.len1 hlt
  have hl2 := T.len (i := j + 1) (k := p) (by omega) D.ple
  have hseg1 : Seg cl ops (j + 1) p := fun i o h1 h2 => hseg i o (by omega) h2
  obtain ⟨g1, _⟩ := T.seg (i := j + 1) (by omega) D.ple hseg1
  have hv1 : ∀ A n x, M' A n = some x → A < (S (j + 1)).H.length := fun A n x e => hH.valid e
  let M2 : Mp := fun A n => if (S j).H.length ≤ A ∧ A < (S (j + 1)).H.length then M' A n else M A n
  have hM2in : ∀ {A n}, (S j).H.length ≤ A → A < (S (j + 1)).H.length → M2 A n = M' A n := fun h1 h2 => if_pos ⟨h1, h2⟩
  have hM2out : ∀ {A n}, ¬ ((S j).H.length ≤ A ∧ A < (S (j + 1)).H.length) → M2 A n = M A n := fun h => if_neg h
  have hMM2 : Mle M M2 := by
    intro A n x e
    by_cases h : (S j).H.length ≤ A ∧ A < (S (j + 1)).H.length
    · rw [D.h3 j hjp hseg hn A n h.1 h.2] at e; cases e
    · rw [hM2out h]; exact e
  have hM'M2 : ∀ l, (S (j + 1)).H.length ≤ l → Mle M' (cut M2 l) := by
    intro l hl A n x e
    have hA := hv1 _ _ _ e
    unfold cut
    rw [if_pos (by omega)]
    by_cases h : (S j).H.length ≤ A
    · rw [hM2in h hA]; exact e
    · rw [hM2out (fun hh => h hh.1)]
      rw [hx.old A n (by omega)] at e
      exact (cut_some e).2
  have split2 : ∀ {A n x}, M2 A n = some x → ((S j).H.length ≤ A ∧ A < (S (j + 1)).H.length ∧ M' A n = some x) ∨ (¬ ((S j).H.length ≤ A ∧ A < (S (j + 1)).H.length) ∧ M A n = some x) := by
    intro A n x e
    by_cases h : (S j).H.length ≤ A ∧ A < (S (j + 1)).H.length
    · rw [hM2in h.1 h.2] at e; exact .inl ⟨h.1, h.2, e⟩
    · rw [hM2out h] at e; exact .inr ⟨h, e⟩
  refine ⟨M2, (hM'M2 _ (Nat.le_refl _)).trans (cut_le _ _), ?_⟩
  exact {
    closed := D.closed' hr
    ple := D.ple
    pin := fun i o hi ho hci => .inl (D.pin i o hi ho hci)
    pat := fun o' ho' => ⟨(D.pat o' ho').1, fun h => by
      rcases h with h | h
      · exact (D.pat o' ho').2 h
      · omega⟩
    h0 := fun A n x e => by
      rcases split2 e with ⟨_, h, _⟩ | ⟨_, h⟩
      · omega
      · exact D.h0 _ _ _ h
    h2 := fun k hk hs => by
      have old := D.h2 k hk hs
      refine ⟨hH.below, hH.n0, ?_, ?_⟩
      · intro A n b base ext e
        obtain ⟨hA, e⟩ := cut_some e
        rcases split2 e with ⟨e1, e2, e3⟩ | ⟨_, e3⟩
        · obtain ⟨B, hB, he⟩ := hH.ent _ _ _ _ _ e3
          have hjk : j + 1 ≤ k := by
            rcases Nat.lt_or_ge j k with h | h
            · exact h
            · have := T.len h (by omega); omega
          exact ⟨B, by rw [g1.2 A e2]; exact hB, he.keep (hM'M2 _ (T.len hjk (by have := D.ple; omega))) rfl⟩
        · have e4 : cut M (S k).H.length A n = some (b, base, ext) := by unfold cut; rw [if_pos hA]; exact e3
          obtain ⟨B, hB, he⟩ := old.ent _ _ _ _ _ e4
          exact ⟨B, hB, he.keep (cut_mono hMM2 (Nat.le_refl _)) (hx.below.block b he.lt)⟩
      · intro A n A' n' b base ext base' ext' e e' hb
        obtain ⟨hA, e⟩ := cut_some e
        obtain ⟨hA', e'⟩ := cut_some e'
        rcases split2 e with ⟨e1, e2, e3⟩ | ⟨e1, e3⟩
        · rcases split2 e' with ⟨f1, f2, f3⟩ | ⟨f1, f3⟩
          · exact hH.apart _ _ _ _ _ _ _ _ _ e3 f3 hb
          · have := hx.new _ _ _ _ _ e1 e3
            obtain ⟨_, _, he⟩ := D.hr.ent _ _ _ _ _ f3
            exact absurd he.lt (by omega)
        · rcases split2 e' with ⟨f1, f2, f3⟩ | ⟨f1, f3⟩
          · have := hx.new _ _ _ _ _ f1 f3
            obtain ⟨_, _, he⟩ := D.hr.ent _ _ _ _ _ e3
            exact absurd he.lt (by omega)
          · exact D.hr.apart _ _ _ _ _ _ _ _ _ e3 f3 hb
    h3 := fun i hi hs hL A n h1 h2 => by
      have hij : i ≠ j := fun h => hL (.inr h)
      rw [hM2out]
      · exact D.h3 i hi hs (fun h => hL (.inl h)) A n h1 h2
      · rintro ⟨h3, h4⟩
        rcases Nat.lt_or_ge i j with h | h
        · have := T.len (i := i + 1) (k := j) (by omega) (by omega); omega
        · have := T.len (i := j + 1) (k := i) (by omega) (by have := D.ple; omega); omega
    t := D.tmps T hj hr hn hMM2 (ds := a.defers) fun d hd => vr_mono (hM'M2 _ (Nat.le_refl _)) (hv d hd)
    n := act_put_n D.n a.defers _ _
    d := by rw [act_put_d]; exact D.d.mono hMM2
    mle := D.mle.trans hMM2
    kp := D.kp.trans ⟨fun A n hA => by
        have := T.protL j (by omega)
        exact hM2out (by omega), fun B0 hB hM => ⟨hx.below.mono hB, fun A n b base ext hA e => by
          rcases split2 e with ⟨e1, e2, e3⟩ | ⟨e1, e3⟩
          · have := hx.new _ _ _ _ _ e1 e3; omega
          · exact hM _ _ _ _ _ hA e3⟩⟩ }
end Go.AM

namespace Go.AM
open Go
open Go.RowKit (Below)
variable {P : Program} {N0 : Nat} {W0 : World} {cl : FuncId → Nat} {fl : Bool} {fn : Fn'} {prot N : Nat} {ops : Array Oper} {B : Nat → Prop} {S : Nat → St}
variable {M0 M : Mp} {w0 w : World} {L : Nat → Prop} {a : Act} {p : Nat}
theorem DI.ahead (T : Txt N0 W0 fn P cl fl prot N ops B S) (D : DI N0 W0 cl prot N ops S M0 w0 L M a w p) {j : Nat} {o : Oper} (hj : ops[j]? = some o) (hr : Ready ops L j) (hc : opClass cl o.op ≤ 1) (hc0 : opClass cl o.op ≠ 0) : j < p := by
  have hlt := (Array.getElem?_eq_some_iff.1 hj).1
  rcases Nat.lt_or_ge j p with h | h
  · exact h
  · exfalso
    have hpo := Array.getElem?_eq_getElem (xs := ops) (i := p) (by omega)
    obtain ⟨k1, k2⟩ := D.pat _ hpo
    by_cases hjp : j = p
    · subst hjp; rw [hj] at hpo; injection hpo with e; rw [← e] at k1; exact k1 hc
    · exact k2 (done_before T.reg D.closed (by omega) hpo hj (pair_class (fun hh => k1 hh.1) (by omega) hc0 fun hh => k1 (isLd_class hh.2.1)) hr)
theorem DI.segj (T : Txt N0 W0 fn P cl fl prot N ops B S) (D : DI N0 W0 cl prot N ops S M0 w0 L M a w p) {j : Nat} {o : Oper} (hj : ops[j]? = some o) (hr : Ready ops L j) (hn : ¬ L j) (hc : opClass cl o.op ≤ 1) (hc0 : opClass cl o.op ≠ 0) (hl : ¬ (fl = true ∧ isLd o.op = true ∧ o.dst.isSome = true)) : j < p ∧ Seg cl ops j p := by
  refine ⟨D.ahead T hj hr hc hc0, fun i oi h1 h2 hoi => ?_⟩
  by_cases hij : i = j
  · subst hij; rw [hj] at hoi; cases hoi; exact hc
  · by_cases hci : opClass cl oi.op ≤ 1
    · exact hci
    · exfalso
      exact hn (done_before T.reg D.closed (by omega) hj hoi (pair_class (fun hh => hci hh.2) hc0 (by omega) hl) (D.closed.ready (D.pin i oi h2 hoi hci)))
theorem DI.first (T : Txt N0 W0 fn P cl fl prot N ops B S) (D : DI N0 W0 cl prot N ops S M0 w0 L M a w p) {j : Nat} {o : Oper} (hj : ops[j]? = some o) (hr : Ready ops L j) (hn : ¬ L j) (hc : ¬ opClass cl o.op ≤ 1) : j = p := by
  have hlt := (Array.getElem?_eq_some_iff.1 hj).1
  rcases Nat.lt_trichotomy j p with h | h | h
  · exact absurd (D.pin j o h hj hc) hn
  · exact h
  · exfalso
    have hpo := Array.getElem?_eq_getElem (xs := ops) (i := p) (by omega)
    obtain ⟨k1, k2⟩ := D.pat _ hpo
    exact k2 (done_before T.reg D.closed h hpo hj (pair_class (fun hh => k1 hh.1) (by omega) (by omega) fun hh => k1 (isLd_class hh.2.1)) hr)
theorem put_self (s : St) {d : Option Tmp} {t : Tmp} (hd : d = some t) (v : Value) : (s.put d v).t t = v := by
  subst hd; simp [St.put, upd]
theorem DI.step (T : Txt N0 W0 fn P cl fl prot N ops B S) (D : DI N0 W0 cl prot N ops S M0 w0 L M a w p) {j : Nat} {o : Oper} (hj : ops[j]? = some o) (hr : Ready ops L j) (hn : ¬ L j) (hB : ¬ B j) {K : Act → World → Prop} {Q : Exit → Act → World → Prop}
    (hK : ∀ M' a' w' p', DI N0 W0 cl prot N ops S M0 w0 (fun i => L i ∨ i = j) M' a' w' p' → K a' w') : wpOp P ops Q j K a w := by
  have hlt := (Array.getElem?_eq_some_iff.1 hj).1
  unfold wpOp
  rw [hj]
  simp only
  have hρ := D.operands T hj hr hn
  rcases (T.stp j o hj).elim (fun h => h.2) (fun h => absurd h.1 hB) with ⟨hw, hev⟩ | ⟨hw, hs⟩
  · rw [want_sim (fun d hd => D.reads T hj hr hn hd) hw]
    simp only [if_true]
    refine .inl ?_
    by_cases hc : opClass cl o.op ≤ 1
    · by_cases hc0 : opClass cl o.op = 0
      · have hev' := hev
        unfold evOp at hev'
        obtain ⟨⟨r, H1⟩, hre, h⟩ := Option.bind_eq_some_iff.1 hev'
        obtain ⟨v, v', rfl, rfl, h1, h2, _⟩ := exec0 (w := w) (fun A n b base ext e => D.hr.nle (cut_some e).2) hc0 hρ hre
        simp only at h
        have hS := (Prod.mk.inj (Option.some.inj h)).2
        unfold Oper.wp
        rw [h1]
        refine hK _ _ _ _ (D.still T hj hr hn hc fun d hd => ?_)
        rw [← hS]
        simp only [put_self _ hd]
        exact h2
      · have hple := D.ple
        by_cases hseg : Seg cl ops j p
        case neg =>
          -- a load that comes late
          have hjp := D.ahead T hj hr hc hc0
          by_cases hl : fl = true ∧ isLd o.op = true ∧ o.dst.isSome = true
          case neg => exact absurd (D.segj T hj hr hn hc hc0 hl).2 hseg
          obtain ⟨hf, hld, hd⟩ := hl
          obtain ⟨d, hd⟩ := Option.isSome_iff_exists.1 hd
          obtain ⟨dst, op, type, pos, after, guard⟩ := o
          obtain ⟨Ty, x, rfl⟩ : ∃ Ty x, op = .load Ty x := by cases op <;> first | (cases hld; done) | exact ⟨_, _, rfl⟩
          simp only at hd
          subst hd
          obtain ⟨hg, hall⟩ := T.flt hf j _ Ty x d hj hB rfl rfl hw
          have hldp := hall p hjp hple
          obtain ⟨v', k1, k2⟩ := load_sim (w := w) D.hr hldp (vr_mono (cut_le _ _) (hρ x (by simp [Op.operands])))
          have k3 : (execOp a.eval ⟨some d, .load Ty x, type, pos, after, guard⟩).run P w = .ok (.value v') w := by
            show (Instr.loadAt Ty (a.eval x) >>= fun v => Pure.pure (Next.value v) : Sem Next).run P w = _
            simp only [Sem.run_bind, k1, Result.andThen_ok, Sem.run_pure]
          unfold Oper.wp
          rw [k3]
          refine hK _ _ _ _ (D.still T hj hr hn hc fun d' hd' => ?_)
          cases hd'
          rw [(vr_ground hg).1 k2]
          exact vr_self hg
        have hjp := D.ahead T hj hr hc hc0
        have hH := D.h2 j (by omega) hseg
        have hpr := (T.seg (i := j) (k := p) (by omega) hple hseg).1
        have hH' : HR N0 W0 (cut M (S j).H.length) (S j).H w := hH.swap fun A n x e => (hpr.2 A (cut_some e).1).symm
        refine evOp_core T.sound hH' hρ hev (T.protL j (by omega)) ?_ (fun h => absurd rfl h)
        intro _ v v' M' w' a1 ht hds h1 h2 h3 _ h5
        have hx := h5 hc rfl
        obtain ⟨hds, rfl⟩ : (S (j + 1)).ds = (S j).ds ∧ a1 = a := by
          rcases hds with h | ⟨_, _, _, _, _, h⟩
          · exact h
          · exact absurd hc h
        obtain ⟨M2, _, D2⟩ := D.quiet T hj hr hn hc hjp hseg h1 h2 hx (fun d hd => by rw [ht, put_self _ hd]; exact h3)
        exact hK _ _ _ _ D2
    · have hjp := D.first T hj hr hn hc
      subst hjp
      have hρ' : ∀ x ∈ o.op.operands.toList, VR M ((S j).eval x) (a.eval x) := fun x hx => vr_mono (cut_le _ _) (hρ x hx)
      refine evOp_core T.sound D.hr hρ' hev (T.protL j (by omega)) ?_ (fun h => absurd rfl h)
      intro _ v v' M' w' a1 ht hds h1 h2 h3 h4 _
      have hval : ∀ A n x, M' A n = some x → A < (S (j + 1)).H.length := fun A n x e => h2.valid e
      have hd : ∃ ds, a1 = { a with defers := ds } ∧ DL M' (S (j + 1)).ds ds := by
        rcases hds with ⟨h, rfl⟩ | ⟨d, d', e, rfl, hdr, _⟩
        · exact ⟨a1.defers, rfl, by rw [h]; exact D.d.mono h1⟩
        · exact ⟨_, rfl, by rw [e]; exact ⟨d', _, rfl, hdr, D.d.mono h1⟩⟩
      obtain ⟨ds, rfl, hdl⟩ := hd
      obtain ⟨p', D2⟩ := D.loud T hj hr hn rfl hc h1 h2 hdl h4 (v' := v') (fun d hd => by
        rw [cut_all hval, ht, put_self _ hd]; exact h3)
      exact hK _ _ _ _ D2
  · rw [want_sim (fun d hd => D.reads T hj hr hn hd) hw]
    simp only [Bool.false_eq_true, if_false]
    have hval : ∀ d, o.dst = some d → (S (j + 1)).t d = undef := fun d hd => by rw [hs, put_self _ hd]
    by_cases hc : opClass cl o.op ≤ 1
    · exact hK _ _ _ _ (D.still T hj hr hn hc fun d hd => by rw [hval d hd]; exact vr_undef_self)
    · have hjp := D.first T hj hr hn hc
      subst hjp
      obtain ⟨p', D2⟩ := D.loud (M' := M) (w' := w) (v' := undef) (ds := a.defers) T hj hr hn rfl hc (.refl _) (by rw [hs, St.put_H]; exact D.hr) (by
        rw [hs]; have := D.d; cases o.dst <;> exact this) (.refl _ _ _) (fun d hd => by rw [hval d hd]; exact vr_undef_self)
      exact hK _ _ _ _ D2
def unl (listed : Array Bool) (n : Nat) : Nat := (List.range n).countP fun i => !listed.getD i false
theorem getD_set {listed : Array Bool} {j : Nat} (hj : j < listed.size) (i : Nat) : (listed.setIfInBounds j true).getD i false = true ↔ listed.getD i false = true ∨ i = j := by
  simp only [Array.getD_eq_getD_getElem?]
  by_cases h : i = j
  · subst h
    rw [Array.getElem?_setIfInBounds_self_of_lt hj]
    simp
  · rw [Array.getElem?_setIfInBounds_ne (fun e => h e.symm)]
    simp [h]
theorem unl_set {listed : Array Bool} {j n : Nat} (hj : j < listed.size) (hn : j < n) (h : ¬ listed.getD j false = true) : unl (listed.setIfInBounds j true) n < unl listed n := by
  unfold unl
  induction n with
  | zero => omega
  | succ n ih =>
    rw [List.range_succ, List.countP_append, List.countP_append]
    have hle : ∀ m, (List.range m).countP (fun i => !(listed.setIfInBounds j true).getD i false) ≤ (List.range m).countP (fun i => !listed.getD i false) := by
      intro m
      apply List.countP_mono_left
      intro x _ hx
      simp only [Bool.not_eq_true'] at hx ⊢
      cases hh : listed.getD x false with
      | false => rfl
      | true => rw [(getD_set hj x).2 (.inl hh)] at hx; cases hx
    by_cases hjn : j = n
    · subst hjn
      have h1 : (listed.setIfInBounds j true).getD j false = true := (getD_set hj j).2 (.inr rfl)
      have h2 : listed.getD j false = false := by simpa using h
      have := hle j
      simp only [List.countP_cons, List.countP_nil, h1, h2, Bool.not_true, Bool.not_false, if_true, Bool.false_eq_true, if_false]
      omega
    · have := ih (by omega)
      have e : (listed.setIfInBounds j true).getD n false = listed.getD n false := by
        simp only [Array.getD_eq_getD_getElem?]
        rw [Array.getElem?_setIfInBounds_ne (fun e => hjn e)]
      simp only [List.countP_cons, List.countP_nil, e]
      omega
theorem draw_any (T : Txt N0 W0 fn P cl fl prot N ops B S) (hB : ∀ i, ¬ B i) : ∀ (fuel : Nat) (listed : Array Bool), listed.size = ops.size → unl listed ops.size ≤ fuel → ∀ (M : Mp) (a : Act) (w : World) (p : Nat),
    DI N0 W0 cl prot N ops S M0 w0 (fun i => listed.getD i false = true) M a w p → wpAny P .any ops (Post N0 W0 prot N M0 w0 (S ops.size) .normal) fuel listed a w := by
  have done : ∀ (listed : Array Bool), listed.size = ops.size → ∀ (M : Mp) (a : Act) (w : World) (p : Nat), DI N0 W0 cl prot N ops S M0 w0 (fun i => listed.getD i false = true) M a w p → (∀ i, i < ops.size → listed.getD i false = true) →
      Post N0 W0 prot N M0 w0 (S ops.size) .normal .normal a w := by
    intro listed hsz M a w p D hall
    have hp : p = ops.size := by
      rcases Nat.lt_or_ge p ops.size with h | h
      · exact absurd (hall p h) (D.pat _ (Array.getElem?_eq_getElem h)).2
      · have := D.ple; omega
    subst hp
    refine ⟨M, D.mle, D.hr, ⟨fun i => vr_mono (cut_le _ _) (D.t _ (Nat.le_refl _) i (fun k o hk _ _ => hall k hk) fun k o hk ho _ => by have := (Array.getElem?_eq_some_iff.1 ho).1; omega), D.n, D.d⟩, trivial, D.kp⟩
  have allOf : ∀ (listed : Array Bool), listed.size = ops.size → Region.ready .any ops listed = [] → ∀ i, i < ops.size → listed.getD i false = true := by
    intro listed hsz hr i
    induction i using Nat.strongRecOn with
    | _ i ih =>
      intro hi
      cases hl : listed.getD i false with
      | true => rfl
      | false =>
        exfalso
        have : i ∈ Region.ready .any ops listed := by
          rw [mem_ready]
          have ho := Array.getElem?_eq_getElem (xs := ops) (i := i) hi
          refine ⟨?_, _, ho, fun e he hb => ?_⟩
          · simp only [Array.getD_eq_getD_getElem?, Array.getElem?_eq_getElem (xs := listed) (i := i) (by omega), Option.getD_some] at hl ⊢
            exact hl
          · have := (regOk_facts T.reg).1 i _ ho e (by simpa using he) hb
            exact ih e.on this (by omega)
        rw [hr] at this
        cases this
  intro fuel
  induction fuel with
  | zero =>
    intro listed hsz hu M a w p D
    have hall : ∀ i, i < ops.size → listed.getD i false = true := by
      intro i hi
      have h0 : unl listed ops.size = 0 := by omega
      unfold unl at h0
      rw [List.countP_eq_zero] at h0
      have := h0 i (by simpa using hi)
      simpa using this
    refine ⟨?_, done listed hsz M a w p D hall⟩
    rw [List.eq_nil_iff_forall_not_mem]
    intro i hi
    rw [mem_ready] at hi
    obtain ⟨h1, o, ho, _⟩ := hi
    have hlt := (Array.getElem?_eq_some_iff.1 ho).1
    have := hall i hlt
    simp only [Array.getD_eq_getD_getElem?, Array.getElem?_eq_getElem (xs := listed) (i := i) (by omega), Option.getD_some] at h1 this
    rw [h1] at this; cases this
  | succ fuel ih =>
    intro listed hsz hu M a w p D
    refine ⟨fun hr => done listed hsz M a w p D (allOf listed hsz hr), fun j hj => ?_⟩
    rw [mem_ready] at hj
    obtain ⟨h1, o, ho, h2⟩ := hj
    have hlt := (Array.getElem?_eq_some_iff.1 ho).1
    have hnl : ¬ listed.getD j false = true := by
      simp only [Array.getD_eq_getD_getElem?, Array.getElem?_eq_getElem (xs := listed) (i := j) (by omega), Option.getD_some] at h1 ⊢
      simp [h1]
    have hready : Ready ops (fun i => listed.getD i false = true) j := fun o' ho' e he hb => by
      rw [ho] at ho'; cases ho'
      exact h2 e (by simpa using he) hb
    refine D.step T ho hready hnl (hB j) fun M' a' w' p' D' => ih _ (by simpa using hsz) ?_ M' a' w' p' ?_
    · have := unl_set (n := ops.size) (by omega) hlt hnl
      omega
    · have : (fun i => (listed.setIfInBounds j true).getD i false = true) = fun i => listed.getD i false = true ∨ i = j := by
        funext i
        exact propext (getD_set (by omega) i)
      rw [this]
      exact D'
theorem DI.start (T : Txt N0 W0 fn P cl fl prot N ops B S) (hH : HR N0 W0 M (S 0).H w) (hS : SR M N (S 0) a) {p : Nat} (h2 : p ≤ ops.size) (h3 : Seg cl ops 0 p) (h4 : ∀ o, ops[p]? = some o → ¬ opClass cl o.op ≤ 1) :
    DI N0 W0 cl prot N ops S M w (fun i => (Array.replicate ops.size false).getD i false = true) M a { w with drawn := w.drawn + 1 } p := by
  obtain ⟨g1, g2⟩ := T.seg (Nat.zero_le _) h2 h3
  have hH' : HR N0 W0 M (S 0).H { w with drawn := w.drawn + 1 } := hH.drew
  have hval : ∀ A n x, M A n = some x → A < (S 0).H.length := fun A n x e => hH.valid e
  have hL : ∀ i, ¬ (Array.replicate ops.size false).getD i false = true := by
    intro i
    simp only [Array.getD_eq_getD_getElem?, Array.getElem?_replicate]
    split <;> simp
  exact {
    closed := fun j o h => absurd h (hL j)
    ple := h2
    pin := fun i o hi ho hc => absurd (h3 i o (Nat.zero_le _) hi ho) hc
    pat := fun o ho => ⟨h4 o ho, hL p⟩
    h0 := fun A n x e => by have := hval _ _ _ e; have := g1.1; omega
    h2 := fun k hk hs => by
      have := T.len (Nat.zero_le k) (by omega)
      rw [cut_all fun A n x e => by have := hval _ _ _ e; omega]
      exact hH'.swap fun A n x e => g1.2 A (hval _ _ _ e)
    h3 := fun i hi hs _ A n hA _ => by
      cases e : M A n with
      | none => rfl
      | some x =>
        exfalso
        have := hval _ _ _ e
        have := T.len (Nat.zero_le i) (by omega)
        omega
    t := fun k hk t h _ => by
      have := T.len (Nat.zero_le k) hk
      rw [cut_all fun A n x e => by have := hval _ _ _ e; omega, T.t (Nat.zero_le k) hk fun j o _ hj ho hd => hL j (h j o hj ho hd)]
      exact hS.t t
    n := hS.n
    d := by rw [g2]; exact hS.d
    mle := .refl _
    kp := ⟨fun _ _ _ => rfl, fun B0 hB hM => ⟨(Below.refl _ _).drew, hM⟩⟩ }
theorem draw_wp (hm : P.follows .mixedOrders = true) (hreg : regOk cl fl ops = true) (hok : ∀ o ∈ ops.toList, operOk N o = true) (hfn : FnSound P N0 W0 cl fn) (hpre : FnPre cl fn) {s s' : St} {id : Nat} (hH : HR N0 W0 M s.H w) (hS : SR M N s a) (hp : prot ≤ s.H.length)
    (h : (fl = false ∧ evOps fn P cl true prot ops ops.toList s = some (.normal, s')) ∨ fltGo fn P cl prot ops ops.toList [] s = some (.normal, s')) : (Code.region id ops true).wp P (Post N0 W0 prot N M w s' .normal) a w := by
  have key : ∃ S : Nat → St, S 0 = s ∧ S (0 + ops.toList.length) = s' ∧ Txt N0 W0 fn P cl fl prot N ops (fun _ => False) S := by
    rcases h with ⟨hf, h⟩ | h
    · obtain ⟨S, rfl, hS2, hS3⟩ := trace ops.toList 0 s s' (by simp) h
      exact ⟨S, rfl, hS2, ⟨fun i o ho => .inl ⟨fun h => h, hS3 i o (Nat.zero_le _) ho⟩, hreg, hok, hfn, hpre, hp, fun hf' => by rw [hf] at hf'; cases hf'⟩⟩
    · obtain ⟨S, rfl, hS2, hS3, _, hS5⟩ := traceF hpre ops.toList 0 [] s s' (by simp) (Nat.zero_le _) hp (fun q hq => by cases hq) h
      exact ⟨S, rfl, hS2, ⟨fun i o ho => .inl ⟨fun h => h, hS3 i o (Nat.zero_le _) ho⟩, hreg, hok, hfn, hpre, hp, fun _ j o T x d ho _ e1 e2 hw => hS5 j o T x d (Nat.zero_le _) ho e1 e2 hw⟩⟩
  obtain ⟨S, rfl, hS2, T⟩ := key
  have hsz : 0 + ops.toList.length = ops.size := by simp
  rw [hsz] at hS2
  subst hS2
  refine wp_region_any hm ?_
  obtain ⟨p, h1, h2, h3, h4⟩ := T.next _ 0 rfl (Nat.zero_le _)
  refine draw_any T (fun _ h => h) ops.size _ (by simp) ?_ M a _ p ?_
  · unfold unl
    exact Nat.le_trans (List.countP_le_length ..) (by simp)
  · exact DI.start T hH hS h2 h3 h4
end Go.AM

namespace Go.AM
open Go
open Go.RowKit (Below)
variable {P : Program} {N0 : Nat} {W0 : World} {cl : FuncId → Nat} {fl : Bool} {fn : Fn'} {prot N : Nat} {ops : Array Oper} {B : Nat → Prop} {S : Nat → St}
variable {M0 M : Mp} {w0 w : World} {L : Nat → Prop} {a : Act} {p : Nat}
theorem vr_junk {M : Mp} (c : Value) : VR M junk c := by unfold junk; simp [VR]
theorem XR.monoP {M M' : Mp} (hM : Mle M M') {ch : List PanicEntry} {e : Exit} (h : XR M (.panic ch) e) : XR M' (.panic ch) e := by
  cases e with
  | panic ch' => exact CR.mono hM h
  | _ => exact h.elim
theorem junk_no {t : Nat → Value} {i : Nat} (h : ¬ ops.toList.any (fun o => o.dst == some i) = true) : ∀ (k : Nat) (o : Oper), ops[k]? = some o → o.dst ≠ some i := by
  intro k o ho hd
  apply h
  rw [List.any_eq_true]
  exact ⟨o, List.mem_of_getElem? (i := k) (by simpa using ho), by simpa using hd⟩
theorem DI.junked (T : Txt N0 W0 fn P cl fl prot N ops B S) (D : DI N0 W0 cl prot N ops S M0 w0 L M a w p) {M' : Mp} (hM : Mle M M') (i : Nat) : VR M' (junkT ops (S ops.size).t i) (a.tmps.getD i undef) := by
  unfold junkT
  split
  · exact vr_junk _
  · rename_i h
    have hno := junk_no (t := (S 0).t) h
    rw [T.t (i := 0) (Nat.zero_le _) (Nat.le_refl _) fun j o _ _ ho => hno j o ho]
    exact vr_mono ((cut_le _ _).trans hM) (D.t 0 (Nat.zero_le _) i (fun k o hk ho hd => by omega) fun k o _ ho hd => absurd hd (hno k o ho))
theorem DI.panic (T : Txt N0 W0 fn P cl fl prot N ops B S) (D : DI N0 W0 cl prot N ops S M0 w0 L M a w p) {j : Nat} {o : Oper} (hj : ops[j]? = some o) (hr : Ready ops L j) (hn : ¬ L j)
    (hw : wantT ops (S j).t o = some true) {ch : List PanicEntry} {sp : St} (hev : evOp fn P cl true prot o.op o.dst (S j) = some (.panic ch, sp)) (hS : S (j + 1) = sp.put o.dst junk)
    (htail : ∀ k, j < k → k ≤ ops.size → Pr (S k).H.length (S k).H (S ops.size).H ∧ (S ops.size).ds = (S k).ds) {K : Act → World → Prop} :
    wpOp P ops (Post N0 W0 prot N M0 w0 { S ops.size with t := junkT ops (S ops.size).t } (.panic ch)) j K a w := by
  have hlt := (Array.getElem?_eq_some_iff.1 hj).1
  unfold wpOp
  rw [hj]
  simp only
  have hρ := D.operands T hj hr hn
  rw [want_sim (fun d hd => D.reads T hj hr hn hd) hw]
  simp only [if_true]
  refine .inl ?_
  have hSH : (S (j + 1)).H = sp.H := by rw [hS, St.put_H]
  have hSd : (S (j + 1)).ds = sp.ds := by rw [hS]; cases o.dst <;> rfl
  by_cases hc : opClass cl o.op ≤ 1
  · have hc0 : opClass cl o.op ≠ 0 := by
      intro hc0
      have hev' := hev
      unfold evOp at hev'
      obtain ⟨⟨r, H1⟩, hre, h⟩ := Option.bind_eq_some_iff.1 hev'
      obtain ⟨v, v', rfl, rfl, h1, h2, _⟩ := exec0 (w := w) (fun A n b base ext e => D.hr.nle (cut_some e).2) hc0 hρ hre
      simp only at h
      cases h
    have hnl : ¬ (fl = true ∧ isLd o.op = true ∧ o.dst.isSome = true) := by
      rintro ⟨_, hld, _⟩
      obtain ⟨dst, op, type, pos, after, guard⟩ := o
      obtain ⟨Ty, x, rfl⟩ : ∃ Ty x, op = .load Ty x := by cases op <;> first | (cases hld; done) | exact ⟨_, _, rfl⟩
      obtain ⟨_, _, _, he⟩ := evOp_load hev
      cases he
    obtain ⟨hjp, hseg⟩ := D.segj T hj hr hn hc hc0 hnl
    have hH := D.h2 j (by omega) hseg
    have hple := D.ple
    have hpr := (T.seg (i := j) (k := p) (by omega) hple hseg).1
    have hH' : HR N0 W0 (cut M (S j).H.length) (S j).H w := hH.swap fun A n x e => (hpr.2 A (cut_some e).1).symm
    refine evOp_core T.sound hH' hρ hev (T.protL j (by omega)) (fun h => by cases h) ?_
    intro _ e' M' w' ht hds h1 h2 h3 _ h5
    obtain ⟨M2, hM2, D2⟩ := D.quiet T hj hr hn hc hjp hseg h1 (by rw [hSH]; exact h2) (h5 hc rfl) (v' := undef) (fun d hd => by rw [hS, put_self _ hd]; exact vr_junk _)
    obtain ⟨g1, g2⟩ := htail p hjp hple
    have hd2 := D2.d
    rw [act_put_d] at hd2
    refine ⟨M2, D2.mle, D2.hr.swap fun A n x e => g1.2 A (D2.h0 _ _ _ e), ⟨fun i => ?_, D.n, by rw [g2]; exact hd2⟩, XR.monoP hM2 h3, D2.kp⟩
    have := D2.junked T (.refl _) i
    show VR M2 (junkT ops (S ops.size).t i) _
    unfold junkT at this ⊢
    split
    · exact vr_junk _
    · rename_i h
      simp only [h] at this
      have hne : o.dst ≠ some i := junk_no (t := (S 0).t) h j o hj
      have e : (a.put o.dst undef).tmps.getD i undef = a.tmps.getD i undef := by
        cases hdd : o.dst with
        | none => rfl
        | some d =>
          simp only [Act.put, Array.getD_eq_getD_getElem?]
          rw [Array.getElem?_setIfInBounds_ne]
          rintro rfl
          exact hne hdd
      rw [e] at this
      simpa using this
  · have hjp := D.first T hj hr hn hc
    subst hjp
    have hρ' : ∀ x ∈ o.op.operands.toList, VR M ((S j).eval x) (a.eval x) := fun x hx => vr_mono (cut_le _ _) (hρ x hx)
    refine evOp_core T.sound D.hr hρ' hev (T.protL j (by omega)) (fun h => by cases h) ?_
    intro _ e' M' w' ht hds h1 h2 h3 h4 _
    obtain ⟨g1, g2⟩ := htail (j + 1) (by omega) (by omega)
    rw [hSH] at g1
    refine ⟨M', D.mle.trans h1, h2.swap fun A n x e => g1.2 A (h2.valid e), ⟨fun i => D.junked T h1 i, D.n, ?_⟩, h3, D.kp.trans h4⟩
    show DL M' (S ops.size).ds a.defers
    rw [g2, hSd, hds]
    exact D.d.mono h1
theorem draw_pan (T : Txt N0 W0 fn P cl fl prot N ops B S) {j : Nat} {oj : Oper} (hjo : ops[j]? = some oj) (hw : wantT ops (S j).t oj = some true) {ch : List PanicEntry} {sp : St} (hev : evOp fn P cl true prot oj.op oj.dst (S j) = some (.panic ch, sp)) (hS : S (j + 1) = sp.put oj.dst junk)
    (htail : ∀ k, j < k → k ≤ ops.size → Pr (S k).H.length (S k).H (S ops.size).H ∧ (S ops.size).ds = (S k).ds) (hB : ∀ i, B i → i = j ∨ ((bef ops).getD i 0).testBit j = true) (hBj : B j) :
    ∀ (fuel : Nat) (listed : Array Bool), listed.size = ops.size → unl listed ops.size ≤ fuel → ¬ listed.getD j false = true → ∀ (M : Mp) (a : Act) (w : World) (p : Nat),
    DI N0 W0 cl prot N ops S M0 w0 (fun i => listed.getD i false = true) M a w p → wpAny P .any ops (Post N0 W0 prot N M0 w0 { S ops.size with t := junkT ops (S ops.size).t } (.panic ch)) fuel listed a w := by
  have hlt := (Array.getElem?_eq_some_iff.1 hjo).1
  intro fuel
  induction fuel with
  | zero =>
    intro listed hsz hu hnj
    exfalso
    have h0 : unl listed ops.size = 0 := by omega
    unfold unl at h0
    rw [List.countP_eq_zero] at h0
    have := h0 j (by simpa using hlt)
    simp at this
    exact hnj (by simpa using this)
  | succ fuel ih =>
    intro listed hsz hu hnj M a w p D
    refine ⟨fun hr => ?_, fun i hi => ?_⟩
    · exfalso
      have allOf : ∀ i, i < ops.size → listed.getD i false = true := by
        intro i
        induction i using Nat.strongRecOn with
        | _ i ih =>
          intro hi
          cases hl : listed.getD i false with
          | true => rfl
          | false =>
            exfalso
            have : i ∈ Region.ready .any ops listed := by
              rw [mem_ready]
              have ho := Array.getElem?_eq_getElem (xs := ops) (i := i) hi
              refine ⟨?_, _, ho, fun e he hb => ?_⟩
              · simp only [Array.getD_eq_getD_getElem?, Array.getElem?_eq_getElem (xs := listed) (i := i) (by omega), Option.getD_some] at hl ⊢
                exact hl
              · have := (regOk_facts T.reg).1 i _ ho e (by simpa using he) hb
                exact ih e.on this (by omega)
            rw [hr] at this
            cases this
      exact hnj (allOf j hlt)
    · rw [mem_ready] at hi
      obtain ⟨h1, o, ho, h2⟩ := hi
      have hilt := (Array.getElem?_eq_some_iff.1 ho).1
      have hnl : ¬ listed.getD i false = true := by
        simp only [Array.getD_eq_getD_getElem?, Array.getElem?_eq_getElem (xs := listed) (i := i) (by omega), Option.getD_some] at h1 ⊢
        simp [h1]
      have hready : Ready ops (fun i => listed.getD i false = true) i := fun o' ho' e he hb => by
        rw [ho] at ho'; cases ho'
        exact h2 e (by simpa using he) hb
      by_cases hij : i = j
      · subst hij
        rw [ho] at hjo; cases hjo
        exact D.panic T ho hready hnl hw hev hS htail
      · have hnB : ¬ B i := fun hb => by
          rcases hB i hb with h | h
          · exact hij h
          · exact hnj (before_in T.reg D.closed i hready j h)
        refine D.step T ho hready hnl hnB fun M' a' w' p' D' => ih _ (by simpa using hsz) ?_ ?_ M' a' w' p' ?_
        · have := unl_set (n := ops.size) (by omega) hilt hnl
          omega
        · rw [getD_set (by omega)]
          rintro (h | h)
          · exact hnj h
          · exact hij h.symm
        · have : (fun k => (listed.setIfInBounds i true).getD k false = true) = fun k => listed.getD k false = true ∨ k = i := by
            funext k
            exact propext (getD_set (by omega) k)
          rw [this]
          exact D'
theorem draw_wpP (hm : P.follows .mixedOrders = true) (hreg : regOk cl fl ops = true) (hok : ∀ o ∈ ops.toList, operOk N o = true) (hfn : FnSound P N0 W0 cl fn) (hpre : FnPre cl fn) {s s' : St} {e : Exit} {id : Nat} (hH : HR N0 W0 M s.H w) (hS : SR M N s a) (hp : prot ≤ s.H.length)
    (h : evDrop fl fn P cl prot ops ops.toList 0 s = some (e, s')) : (Code.region id ops true).wp P (Post N0 W0 prot N M w s' e) a w := by
  obtain ⟨S, ch, j, o, sp, rfl, _, hjo, rfl, h5', h6, h7, hq, h8, rfl, h10'⟩ := traceP ops.toList 0 s s' e (by simp) h
  have hlt := (Array.getElem?_eq_some_iff.1 hjo).1
  have h5 : ∀ i o, 0 ≤ i → i < j → ops[i]? = some o → Stp fn P cl prot ops o (S i) (S (i + 1)) := fun i o h1 h2 h3 => (h5' i o h1 h2 h3).1
  have h10 : ∀ i o, j < i → ops[i]? = some o → (((bef ops).getD i 0).testBit j = true ∧ S (i + 1) = S i) ∨ (((bef ops).getD i 0).testBit j = false ∧ opClass cl o.op ≤ 1 ∧ Stp fn P cl prot ops o (S i) (S (i + 1))) := fun i o h1 h2 => (h10' i o h1 h2).imp (fun h => h) fun h => ⟨h.1, h.2.1, h.2.2.1⟩
  have hprot : ∀ i, i ≤ j → prot ≤ (S i).H.length := by
    intro i
    induction i with
    | zero => intro _; exact hp
    | succ i ih =>
      intro hi
      have h1 := ih (by omega)
      have := ((h5 i _ (Nat.zero_le _) (by omega) (Array.getElem?_eq_getElem (by omega))).pre hpre h1).1
      omega
  have hstp : ∀ i oi, ops[i]? = some oi → (¬ (i = j ∨ (j < i ∧ ((bef ops).getD i 0).testBit j = true)) ∧ Stp fn P cl prot ops oi (S i) (S (i + 1))) ∨ ((i = j ∨ (j < i ∧ ((bef ops).getD i 0).testBit j = true)) ∧ Wk cl prot oi (S i) (S (i + 1))) := by
    intro i oi hi
    rcases Nat.lt_trichotomy i j with hij | hij | hij
    · exact .inl ⟨by rintro (h | h) <;> omega, h5 i oi (Nat.zero_le _) hij hi⟩
    · subst hij
      obtain rfl : oi = o := Option.some.inj (hi.symm.trans hjo)
      refine .inr ⟨.inl rfl, ?_, fun t ht => ?_, fun hc => ⟨?_, ?_⟩⟩
      · rw [h8, St.put_H]; exact evOp_pre hpre h7 (hprot i (Nat.le_refl _))
      · rw [h8]
        have := (evOp_tds h7).1 t ht
        rw [← this]
        cases hd : oi.dst with
        | none => rfl
        | some d =>
          simp only [St.put, upd]
          rw [if_neg]
          rintro rfl
          exact ht hd
      · rw [h8]
        have := (evOp_tds h7).2 hc
        rw [← this]
        cases oi.dst <;> rfl
      · rw [h8, St.put_H]; exact evOp_quiet hpre h7 (hprot i (Nat.le_refl _)) hc
    · rcases h10 i oi hij hi with ⟨g1, g2⟩ | ⟨g1, g2, g3⟩
      · refine .inr ⟨.inr ⟨hij, g1⟩, ?_⟩
        rw [g2]
        exact ⟨.refl _ _, fun _ _ => rfl, fun _ => ⟨rfl, .refl _ _⟩⟩
      · refine .inl ⟨?_, g3⟩
        rintro (h | ⟨_, h⟩)
        · omega
        · rw [g1] at h; cases h
  have hprot2 : ∀ i, i ≤ ops.size → prot ≤ (S i).H.length := by
    intro i
    induction i with
    | zero => intro _; exact hp
    | succ i ih =>
      intro hi
      have h1 := ih (by omega)
      have : Pr prot (S i).H (S (i + 1)).H := by
        rcases hstp i _ (Array.getElem?_eq_getElem (by omega)) with ⟨_, h⟩ | ⟨_, h⟩
        · exact h.pre hpre h1
        · exact h.1
      have := this.1
      omega
  have hflt : fl = true → ∀ i oi Ty x d, ops[i]? = some oi → ¬ (i = j ∨ (j < i ∧ ((bef ops).getD i 0).testBit j = true)) → oi.op = .load Ty x → oi.dst = some d → wantT ops (S i).t oi = some true → ground ((S (i + 1)).t d) = true ∧ ∀ p, i < p → p ≤ ops.size → ldA P (S p).H Ty ((S i).eval x) = some ((S (i + 1)).t d) := by
    intro hf i oi Ty x d hi hB e1 e2 hw
    have hokf : ∀ k ok, ops[k]? = some ok → ¬ (k = j ∨ (j < k ∧ ((bef ops).getD k 0).testBit j = true)) → Stp fn P cl prot ops ok (S k) (S (k + 1)) ∧ Okf fl cl ops ok (S k) (S (k + 1)) := by
      intro k ok hk hB
      rcases Nat.lt_trichotomy k j with h | h | h
      · exact h5' k ok (Nat.zero_le _) h hk
      · exact absurd (.inl h) hB
      · rcases h10' k ok h hk with ⟨g1, _⟩ | ⟨_, _, g2, g3⟩
        · exact absurd (.inr ⟨h, g1⟩) hB
        · exact ⟨g2, g3⟩
    have hquiet : ∀ k, k < ops.size → Pr (S k).H.length (S k).H (S (k + 1)).H := by
      intro k hk
      have ho := Array.getElem?_eq_getElem (xs := ops) (i := k) hk
      by_cases hB : k = j ∨ (j < k ∧ ((bef ops).getD k 0).testBit j = true)
      · rcases hB with rfl | ⟨h1, h2⟩
        · rw [ho] at hjo
          obtain rfl := Option.some.inj hjo
          rw [h8, St.put_H]
          exact evOp_quiet hpre h7 (hprot2 k (by omega)) (hq hf)
        · rcases h10 k _ h1 ho with ⟨_, e⟩ | ⟨g1, _⟩
          · rw [e]; exact .refl _ _
          · rw [h2] at g1; cases g1
      · obtain ⟨g1, g2⟩ := hokf k _ ho hB
        rcases g2 hf with g | g
        · rcases g1 with ⟨h1, _⟩ | ⟨_, h1⟩
          · rw [g] at h1; cases h1
          · rw [h1, St.put_H]; exact .refl _ _
        · unfold okF at g
          simp only [Bool.and_eq_true, decide_eq_true_eq] at g
          exact g1.quiet hpre (hprot2 k (by omega)) g.1
    have hchain : ∀ m k, k + m ≤ ops.size → Pr (S k).H.length (S k).H (S (k + m)).H := by
      intro m
      induction m with
      | zero => intro k _; exact .refl _ _
      | succ m ih =>
        intro k hk
        have h1 := ih k (by omega)
        have h2 := hquiet (k + m) (by omega)
        exact h1.trans (h2.less h1.1)
    obtain ⟨g1, g2⟩ := hokf i oi hi hB
    have hilt := (Array.getElem?_eq_some_iff.1 hi).1
    rcases g1 with ⟨_, hev⟩ | ⟨h1, _⟩
    · rw [e1] at hev
      obtain ⟨v, k1, k2, _⟩ := evOp_load hev
      have hv : (S (i + 1)).t d = v := by rw [k2, e2]; simp [St.put, upd]
      refine ⟨?_, fun p hp1 hp2 => ?_⟩
      · rcases g2 hf with g | g
        · rw [g] at hw; cases hw
        · unfold okF at g
          rw [e1, e2] at g
          simp only [isLd, Bool.and_eq_true, Bool.not_true, Bool.false_or] at g
          exact g.2
      · rw [hv]
        have := hchain (p - i) i (by omega)
        rw [show i + (p - i) = p by omega] at this
        exact ldA_keep k1 this
    · rw [h1] at hw; cases hw
  have T : Txt N0 W0 fn P cl fl prot N ops (fun i => i = j ∨ (j < i ∧ ((bef ops).getD i 0).testBit j = true)) S := ⟨hstp, hreg, hok, hfn, hpre, hp, hflt⟩
  have htail : ∀ k, j < k → k ≤ ops.size → Pr (S k).H.length (S k).H (S ops.size).H ∧ (S ops.size).ds = (S k).ds := by
    have key : ∀ m k, j < k → k + m = ops.size → Pr (S k).H.length (S k).H (S ops.size).H ∧ (S ops.size).ds = (S k).ds := by
      intro m
      induction m with
      | zero =>
        intro k _ hk
        obtain rfl : k = ops.size := by omega
        exact ⟨.refl _ _, rfl⟩
      | succ m ih =>
        intro k hjk hk
        obtain ⟨g1, g2⟩ := ih (k + 1) (by omega) (by omega)
        have ho := Array.getElem?_eq_getElem (xs := ops) (i := k) (by omega)
        rcases h10 k _ hjk ho with ⟨_, e⟩ | ⟨_, hc, hst⟩
        · rw [e] at g1 g2; exact ⟨g1, g2⟩
        · have h3 := hst.quiet hpre (T.protL k (by omega)) hc
          exact ⟨h3.trans (g1.less h3.1), g2.trans (hst.tds.2 hc)⟩
    intro k hjk hk
    exact key (ops.size - k) k hjk (by omega)
  refine wp_region_any hm ?_
  obtain ⟨p, k1, k2, k3, k4⟩ := T.next _ 0 rfl (Nat.zero_le _)
  refine draw_pan T hjo h6 h7 h8 htail (fun i hi => hi.imp (fun h => h) (fun h => h.2)) (.inl rfl) ops.size _ (by simp) ?_ ?_ M a _ p (DI.start T hH hS k2 k3 k4)
  · unfold unl
    exact Nat.le_trans (List.countP_le_length ..) (by simp)
  · simp only [Array.getD_eq_getD_getElem?, Array.getElem?_replicate]
    split <;> simp
end Go.AM
