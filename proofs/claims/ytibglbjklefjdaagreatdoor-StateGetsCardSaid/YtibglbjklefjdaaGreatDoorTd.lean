/-
  Schedules, subscribers, entries, digests, states: which may be, as plain functions; the chapter's example. No condition.
-/
import Derived.Test.YtibglbjklefjdaaGreatDoorTc
import Derived.Test.YtibglbjklefjdaaGreatDoorANd
import Derived.Test.YtibglbjklefjdaaGreatDoorTa
set_option linter.all false
set_option linter.unusedSimpArgs false
set_option linter.unusedVariables false
set_option linter.unusedSectionVars false
namespace Go.AM.Z
open Go Go.AM Go.Proofs
set_option maxRecDepth 100000
def monthsL : List UInt8 := [106, 97, 110, 102, 101, 98, 109, 97, 114, 97, 112, 114, 109, 97, 121, 106, 117, 110, 106, 117, 108, 97, 117, 103, 115, 101, 112, 111, 99, 116, 110, 111, 118, 100, 101, 99]
def daysL : List UInt8 := [115, 117, 110, 109, 111, 110, 116, 117, 101, 119, 101, 100, 116, 104, 117, 102, 114, 105, 115, 97, 116]
def fieldsL : List FieldL := [⟨0, 59, [], 0⟩, ⟨0, 23, [], 0⟩, ⟨1, 31, [], 0⟩, ⟨1, 12, monthsL, 0⟩, ⟨0, 6, daysL, 7⟩]
theorem bldF5 : bldV Tryz.prog 137 #[(0, .agg #[.int .i64 0, .int .i64 59, .string ⟨#[]⟩, .int .i64 0]), (1, .agg #[.int .i64 0, .int .i64 23, .string ⟨#[]⟩, .int .i64 0]), (2, .agg #[.int .i64 1, .int .i64 31, .string ⟨#[]⟩, .int .i64 0]),
    (3, .agg #[.int .i64 1, .int .i64 12, .string ⟨#[106, 97, 110, 102, 101, 98, 109, 97, 114, 97, 112, 114, 109, 97, 121, 106, 117, 110, 106, 117, 108, 97, 117, 103, 115, 101, 112, 111, 99, 116, 110, 111, 118, 100, 101, 99]⟩, .int .i64 0]), (4, .agg #[.int .i64 0, .int .i64 6, .string ⟨#[115, 117, 110, 109, 111, 110, 116, 117, 101, 119, 101, 100, 116, 104, 117, 102, 114, 105, 115, 97, 116]⟩, .int .i64 7])] =
    some (.agg #[.int .i64 0, .int .i64 59, .string ⟨#[]⟩, .int .i64 0, .int .i64 0, .int .i64 23, .string ⟨#[]⟩, .int .i64 0, .int .i64 1, .int .i64 31, .string ⟨#[]⟩, .int .i64 0,
      .int .i64 1, .int .i64 12, .string ⟨#[106, 97, 110, 102, 101, 98, 109, 97, 114, 97, 112, 114, 109, 97, 121, 106, 117, 110, 106, 117, 108, 97, 117, 103, 115, 101, 112, 111, 99, 116, 110, 111, 118, 100, 101, 99]⟩, .int .i64 0, .int .i64 0, .int .i64 6, .string ⟨#[115, 117, 110, 109, 111, 110, 116, 117, 101, 119, 101, 100, 116, 104, 117, 102, 114, 105, 115, 97, 116]⟩, .int .i64 7]) := by kernel_rfl
def fieldsV : Value := .agg (fieldsL.flatMap fun f => [.int .i64 f.low, .int .i64 f.high, str f.names, .int .i64 f.over]).toArray
theorem Ffields (p : Nat) (H : Heap) : F 84 #[] p H = some (.returned fieldsV, H) := by
  rw [F, F_pure (f := 84) (X := X) (cl := cl) rfl rfl rfl Tryz.func84 rfl (by simp only [go_sem]), Tryz.results84]
  simp (disch := first | assumption | omega | (simp only [go_sem] <;> omega) | fail) only [go_sem, bldF5]
  rfl
variable {P : Program} {fn : Fn'} {c0 : FuncId → Nat} {ops : Array Oper} {p : Nat}
def dropR (fn : Fn') (P : Program) (cl : FuncId → Nat) (p : Nat) (ops : Array Oper) (j : Nat) (d : Option Tmp) (rest : List Oper) (x : Option (Exit × St)) : Option (Exit × St) := x.bind fun r => match r.1 with
  | .normal => evDrop false fn P cl p ops rest (j + 1) r.2
  | .panic ch => (evRest false fn P cl p ops j rest (j + 1) (r.2.put d junk)).map fun s' => (.panic ch, { s' with t := junkT ops s'.t })
  | _ => none
def restR (fn : Fn') (P : Program) (cl : FuncId → Nat) (p : Nat) (ops : Array Oper) (j i : Nat) (rest : List Oper) (x : Option (Exit × St)) : Option St := x.bind fun r => match r.1 with
  | .normal => evRest false fn P cl p ops j rest (i + 1) r.2
  | _ => none
def okQ (c0 : FuncId → Nat) (op : Op) (d : Option Nat) (t : Nat → Value) : Bool := decide (opClass c0 op ≤ 1) && (!isLd op || match d with
  | some d => ground (t d)
  | none => true)
def okX (c0 : FuncId → Nat) (op : Op) (d : Option Nat) (x : Option (Exit × St)) : Option (Exit × St) := x.bind fun r => if okQ c0 op d r.2.t = true then some r else none
theorem evOpF_true {o : Oper} {s : St} : evOpF true fn P c0 p o s = okX c0 o.op o.dst (evOp fn P c0 true p o.op o.dst s) := by
  unfold evOpF okX
  congr 1
  funext r
  show (if (true && !okQ c0 o.op o.dst r.2.t) = true then none else some r) = _
  cases okQ c0 o.op o.dst r.2.t <;> rfl
theorem okX_some (op : Op) (d : Option Nat) (e : Exit) (s : St) (h : okQ c0 op d s.t = true) : okX c0 op d (some (e, s)) = some (e, s) := by
  unfold okX
  simp only [Option.bind_some, h, if_true]
def dropT (fn : Fn') (P : Program) (cl : FuncId → Nat) (p : Nat) (ops : Array Oper) (j : Nat) (d : Option Tmp) (rest : List Oper) (x : Option (Exit × St)) : Option (Exit × St) := x.bind fun r => match r.1 with
  | .normal => evDrop true fn P cl p ops rest (j + 1) r.2
  | .panic ch => (evRest true fn P cl p ops j rest (j + 1) (r.2.put d junk)).map fun s' => (.panic ch, { s' with t := junkT ops s'.t })
  | _ => none
theorem evDropT_plain (d : Option Tmp) (op : Op) (ty : TypeId) (pos : String) (aft : Array Edge) (rest : List Oper) (j : Nat) (s : St) : evDrop true fn P c0 p ops ({ dst := d, op, type := ty, pos, after := aft, guard := none } :: rest) j s = dropT fn P c0 p ops j d rest (okX c0 op d (evOp fn P c0 true p op d s)) := by
  show (evOpF true fn P c0 p ⟨d, op, ty, pos, aft, none⟩ s).bind _ = _
  rw [evOpF_true]
  rfl
theorem dropT_normal (j : Nat) (d : Option Tmp) (rest : List Oper) (s : St) : dropT fn P c0 p ops j d rest (some (.normal, s)) = evDrop true fn P c0 p ops rest (j + 1) s := (rfl)
theorem dropT_panic (j : Nat) (d : Tmp) (rest : List Oper) (ch : List PanicEntry) (t : Nat → Value) (ds : List Deferred) (H : Heap) : dropT fn P c0 p ops j (some d) rest (some (.panic ch, ⟨t, ds, H⟩)) = (evRest true fn P c0 p ops j rest (j + 1) ⟨upd t d junk, ds, H⟩).map fun s' => (.panic ch, { s' with t := junkT ops s'.t }) := (rfl)
def restT (fn : Fn') (P : Program) (cl : FuncId → Nat) (p : Nat) (ops : Array Oper) (j i : Nat) (rest : List Oper) (x : Option (Exit × St)) : Option St := x.bind fun r => match r.1 with
  | .normal => evRest true fn P cl p ops j rest (i + 1) r.2
  | _ => none
theorem restT_normal (j i : Nat) (rest : List Oper) (s : St) : restT fn P c0 p ops j i rest (some (.normal, s)) = evRest true fn P c0 p ops j rest (i + 1) s := (rfl)
theorem evRestT_skip {o : Oper} {rest : List Oper} {i j : Nat} {s : St} (h : ((bef ops).getD i 0).testBit j = true) : evRest true fn P c0 p ops j (o :: rest) i s = evRest true fn P c0 p ops j rest (i + 1) s := by rw [evRest, if_pos h]
theorem evRestT_do {d : Option Tmp} {op : Op} {ty : TypeId} {pos : String} {aft : Array Edge} {rest : List Oper} {i j : Nat} {s : St} (h : ((bef ops).getD i 0).testBit j = false) (hc : opClass c0 op ≤ 1) : evRest true fn P c0 p ops j ({ dst := d, op, type := ty, pos, after := aft, guard := none } :: rest) i s = restT fn P c0 p ops j i rest (okX c0 op d (evOp fn P c0 true p op d s)) := by
  rw [evRest, if_neg (by rw [h]; simp), if_pos hc]
  show (evOpF true fn P c0 p ⟨d, op, ty, pos, aft, none⟩ s).bind _ = _
  rw [evOpF_true]
  rfl
theorem evRestT_nil (j i : Nat) (s : St) : evRest true fn P c0 p ops j [] i s = some s := (rfl)
theorem drawn_panicT {id : Nat} {s0 : St} {dst : Option Tmp} {op : Op} {ty : TypeId} {pos : String} {aft : Array Edge} {g : Option (Nat × Bool)} {l : List Oper} (ch : List PanicEntry) (s : St) (h : isF c0 id dst = true) :
    drawn fn P c0 p id (List.toArray ({ dst, op, type := ty, pos, after := aft, guard := g } :: l)) s0 (some (.panic ch, s)) = evDrop true fn P c0 p (List.toArray ({ dst, op, type := ty, pos, after := aft, guard := g } :: l)) ({ dst, op, type := ty, pos, after := aft, guard := g } :: l) 0 s0 := drawn_panic ch s h
theorem okQ_move (x : Operand) (d : Option Nat) (t : Nat → Value) : okQ c0 (.move x) d t = true := (rfl)
theorem okQ_load (T : TypeId) (x : Operand) (d : Nat) (t : Nat → Value) : okQ c0 (.load T x) (some d) t = ground (t d) := by
  show (true && (false || ground (t d))) = _
  simp
theorem okQ_indexAddr (T : TypeId) (x y : Operand) (d : Option Nat) (t : Nat → Value) : okQ c0 (.indexAddr T x y) d t = true := (rfl)
theorem okQ_fieldAddr (T : TypeId) (x : Operand) (k : Nat) (d : Option Nat) (t : Nat → Value) : okQ c0 (.fieldAddr T x k) d t = true := (rfl)
theorem okQ_bin (b : BinOp) (T U : TypeId) (x y : Operand) (d : Option Nat) (t : Nat → Value) : okQ c0 (.binOp b T x y U) d t = true := (rfl)
theorem okQ_call (f : FuncId) (xs : Array Operand) (ts : Array TypeId) (d : Option Nat) (t : Nat → Value) (h : c0 f = 1) : okQ c0 (.call { callee := .value (.func f), args := xs, argTypes := ts }) d t = true := by
  unfold okQ opClass
  simp only [h, isLd]
  rfl
attribute [go_sem] okX_some evDropT_plain dropT_normal dropT_panic restT_normal drawn_panicT okQ_move okQ_load okQ_indexAddr okQ_fieldAddr okQ_bin
theorem set_end (G : Heap) (a b : Blk) : (G ++ [a]).set G.length b = G ++ [b] := by
  rw [List.set_append, if_neg (by omega), Nat.sub_self]; rfl
attribute [go_sem] set_end
theorem neq_cron : binV Tryz.prog true .neq 20 (.iface 131 (.agg #[])) .nilIface = some (.bool true) := by kernel_rfl
theorem as_cron : asrtV Tryz.prog (.iface 131 (.agg #[])) 131 true = some (.tuple #[.agg #[], .bool true]) := by kernel_rfl
theorem st_cron (H : Heap) (p x : Nat) : stA Tryz.prog H p 131 (.pointer (some ⟨x, 0, some 0⟩)) (.agg #[]) = put H p x 0 0 H[x]? [] := st_agg sz131 x 0 0 #[] rfl rfl
theorem cronP1_ok {A B : Value} {p : Nat} {H : Heap} : dfnA Tryz.prog cl X (limR Tryz.prog cl X) 81 #[A, B] none p H = some (.returned (.tuple #[]), none, H) := by
  rw [dfnA_rec (f := 81) (X := X) (cl := cl) (d1 := 5) (d2 := 2) rfl (by decide) Tryz.func81 rfl (by kernel_rfl) (fun _ => rfl) (by kernel_rfl), Tryz.results81]
  simp (disch := first | assumption | omega | (simp only [go_sem] <;> omega)) only [go_sem, recA, neq_nil]
def zeroC : List Value := [.slice none 0 0, .slice none 0 0, .slice none 0 0, .slice none 0 0, .slice none 0 0, .bool false, .bool false, .bool false, .bool false, .bool false]
theorem cronP1_bad {A B : Nat} {p : Nat} {H : Heap} {cs : List Value} {v : Value} {T T' : TypeId} {fl fl' : Nat} (hA : H[A]? = some ⟨0, T, cs.toArray, fl, false, []⟩) (hcs : cs.length = 10) (hfl : fl ≤ 10) (hB : H[B]? = some ⟨0, T', #[v], fl', false, []⟩) (hfl' : fl' ≤ 1) (hp : p ≤ A ∧ p ≤ B) (hne : A ≠ B) :
    ∃ H', dfnA Tryz.prog cl X (limR Tryz.prog cl X) 81 #[ptr0 A 10, ptr0 B 1] (some cronP) p H = some (.returned (.tuple #[]), some [{ v := .iface 131 (.agg #[]), recovered := true }], H') ∧
      H'[A]? = some ⟨0, T, zeroC.toArray, 10, false, []⟩ ∧ H'[B]? = some ⟨0, T', #[i64v 2], 1, false, []⟩ ∧ H.length ≤ H'.length ∧ ∀ C, C < H.length → C ≠ A → C ≠ B → H'[C]? = H[C]? := by
  rw [dfnA_rec (f := 81) (X := X) (cl := cl) (d1 := 5) (d2 := 2) rfl (by decide) Tryz.func81 rfl (by kernel_rfl) (fun _ => rfl) (by kernel_rfl), Tryz.results81]
  have hAl := (List.getElem?_eq_some_iff.1 hA).1
  have hBl := (List.getElem?_eq_some_iff.1 hB).1
  match cs, hcs with
  | [c1, c2, c3, c4, c5, c6, c7, c8, c9, c10], _ =>
    have hput : put (H ++ [⟨0, 131, #[], 0, false, []⟩]) p H.length 0 0 (some ⟨0, 131, #[], 0, false, []⟩) [] = some (H ++ [⟨0, 131, #[], 0, false, []⟩]) := by
      rw [put_some p H.length 0 0 131 #[] 0 [] [] ⟨by omega, Nat.le_refl _, rfl, Nat.le_refl _⟩]
      simp only [putAll_nil]
      rw [set_same (by simp)]
    have hset : ∀ (l : Heap) (x : Blk), (l.set A x)[B]? = l[B]? := fun l x => List.getElem?_set_ne hne
    simp (disch := first | assumption | omega | (simp only [go_sem] <;> omega)) only [go_sem, recA, cronP, hput, hset, List.getElem?_concat_length, neq_cron, as_cron, st_cron, ev_assert, List.getElem?_append_left, hA, hB]
    refine ⟨_, rfl, ?_, ?_, ?_, ?_⟩
    · rw [List.getElem?_set_ne (Ne.symm hne), List.getElem?_set_self (by simp; omega)]; rfl
    · rw [List.getElem?_set_self (by simp; omega)]
    · simp
    · intro C h1 h2 h3
      rw [List.getElem?_set_ne (Ne.symm h3), List.getElem?_set_ne (Ne.symm h2), List.getElem?_append_left h1]
theorem cron_bad {N p : Nat} {H : Heap} {cs : List Value} {v : Value} {T T' : TypeId} {fl fl' : Nat} {t : Nat → Value} (hA : H[N]? = some ⟨0, T, cs.toArray, fl, false, []⟩) (hcs : cs.length = 10) (hfl : fl ≤ 10) (hB : H[N + 1]? = some ⟨0, T', #[v], fl', false, []⟩) (hfl' : fl' ≤ 1) (hp : p ≤ N)
    (h2 : t 2 = ptr0 N 10) (h3 : t 3 = ptr0 (N + 1) 1) :
    ∃ H', leaveA (dfnA Tryz.prog cl X (limR Tryz.prog cl X)) Tryz.prog #[.cell 2 64, .cell 3 36] p t [{ target := .fn (.func 81) #[ptr0 N 10, ptr0 (N + 1) 1], args := #[] }] (some cronP) H =
        some (.returned (.tuple #[.agg zeroC.toArray, i64v 2]), H') ∧ H.length ≤ H'.length ∧ ∀ C, C < H.length → C ≠ N → C ≠ N + 1 → H'[C]? = H[C]? := by
  obtain ⟨H', e, k1, k2, k3, k4⟩ := cronP1_bad hA hcs hfl hB hfl' ⟨hp, by omega⟩ (by omega)
  refine ⟨H', ?_, k3, k4⟩
  rw [leaveA_ok (args := #[]) (cap := #[ptr0 N 10, ptr0 (N + 1) 1]) e]
  show leaveA _ _ _ _ _ _ none _ = _
  rw [leaveA_nil, resOf_cells]
  unfold zeroC at k1 ⊢
  simp (disch := first | assumption | omega | (simp only [go_sem] <;> omega)) only [go_sem, h2, h3, k1, k2]
theorem cron_ok {N p : Nat} {H : Heap} {cs : List Value} {v : Value} {T T' : TypeId} {fl fl' : Nat} {t : Nat → Value} (hA : H[N]? = some ⟨0, T, cs.toArray, fl, false, []⟩) (hcs : cs.length = 10) (hfl : fl ≤ 10) (hB : H[N + 1]? = some ⟨0, T', #[v], fl', false, []⟩) (hfl' : fl' ≤ 1)
    (h2 : t 2 = ptr0 N 10) (h3 : t 3 = ptr0 (N + 1) 1) :
    leaveA (dfnA Tryz.prog cl X (limR Tryz.prog cl X)) Tryz.prog #[.cell 2 64, .cell 3 36] p t [{ target := .fn (.func 81) #[ptr0 N 10, ptr0 (N + 1) 1], args := #[] }] none H =
        some (.returned (.tuple #[.agg cs.toArray, v]), H) := by
  rw [leaveA_ok (args := #[]) (cap := #[ptr0 N 10, ptr0 (N + 1) 1]) cronP1_ok]
  show leaveA _ _ _ _ _ _ none _ = _
  rw [leaveA_nil, resOf_cells]
  simp (disch := first | assumption | omega | (simp only [go_sem] <;> omega)) only [go_sem, h2, h3, hA, hB, List.take_of_length_le (Nat.le_of_eq hcs)]
end Go.AM.Z

namespace Go.AM.Z
open Go Go.AM Go.Proofs
set_option maxRecDepth 100000
theorem at_endQ {l : Heap} {a : Blk} {k : Nat} (h : k = l.length) : (l ++ [a])[k]? = some a := by subst h; simp
theorem fields_ok : ∀ f ∈ fieldsL, f.Ok := by
  intro f hf
  simp only [fieldsL, List.mem_cons, List.not_mem_nil, or_false] at hf
  rcases hf with rfl | rfl | rfl | rfl | rfl <;> exact ⟨by decide, by decide, by decide, by decide, by decide⟩
theorem fa0 : idxV Tryz.prog 137 fieldsV (.int .i64 0) = some (.agg #[.int .i64 0, .int .i64 59, str [], .int .i64 0]) := by kernel_rfl
theorem fa1 : idxV Tryz.prog 137 fieldsV (.int .i64 1) = some (.agg #[.int .i64 0, .int .i64 23, str [], .int .i64 0]) := by kernel_rfl
theorem fa2 : idxV Tryz.prog 137 fieldsV (.int .i64 2) = some (.agg #[.int .i64 1, .int .i64 31, str [], .int .i64 0]) := by kernel_rfl
theorem fa3 : idxV Tryz.prog 137 fieldsV (.int .i64 3) = some (.agg #[.int .i64 1, .int .i64 12, str monthsL, .int .i64 0]) := by kernel_rfl
theorem fa4 : idxV Tryz.prog 137 fieldsV (.int .i64 4) = some (.agg #[.int .i64 0, .int .i64 6, str daysL, .int .i64 7]) := by kernel_rfl
theorem fields_at (i : Nat) (f : FieldL) (h : fieldsL[i]? = some f) : idxV Tryz.prog 137 fieldsV (.int .i64 i) = some (.agg #[.int .i64 f.low, .int .i64 f.high, str f.names, .int .i64 f.over]) := by
  have hlt : i < 5 := (List.getElem?_eq_some_iff.1 h).1
  match i, hlt with
  | 0, _ => cases h; exact fa0
  | 1, _ => cases h; exact fa1
  | 2, _ => cases h; exact fa2
  | 3, _ => cases h; exact fa3
  | 4, _ => cases h; exact fa4
theorem ia61 (A off n : Nat) (i : Int) (h : 0 ≤ i ∧ i < 5) : idxA Tryz.prog 61 (.pointer (some ⟨A, off, some n⟩)) (.int .i64 i) = some (.pointer (some ⟨A, off + i.toNat, some n⟩)) := by
  rw [ia_arr Tryz.underlying61 sz27 A off n i h, Nat.mul_one]
theorem ia62 (A off n : Nat) (i : Int) (h : 0 ≤ i ∧ i < 5) : idxA Tryz.prog 62 (.pointer (some ⟨A, off, some n⟩)) (.int .i64 i) = some (.pointer (some ⟨A, off + i.toNat, some n⟩)) := by
  rw [ia_arr Tryz.underlying62 sz4 A off n i h, Nat.mul_one]
structure CW (H0 G : Heap) (ps : List (List UInt8)) (C : List Value) : Prop where
  c : ∃ fl, fl ≤ 10 ∧ G[H0.length]? = some ⟨0, 64, C.toArray, fl, false, []⟩
  e : ∃ fl, fl ≤ 1 ∧ G[H0.length + 1]? = some ⟨0, 36, #[i64v 0], fl, false, []⟩
  s : G[H0.length + 2]? = some ⟨0, 9, (ps.map str).toArray, ps.length, false, []⟩
  pr : Pr H0.length H0 G
  n : H0.length + 3 ≤ G.length
def partsL : List FieldL → List (List UInt8) → Option (List (List Int))
  | f :: fs, s :: ss => (partL f s).bind fun x => (partsL fs ss).map (x :: ·)
  | _, _ => some []
theorem partsL_none : ∀ (fs : List FieldL) (ss : List (List UInt8)) (k : Nat) (f : FieldL) (s : List UInt8), fs[k]? = some f → ss[k]? = some s → partL f s = none → partsL fs ss = none
  | [], _, _, _, _, h, _, _ => by simp at h
  | _ :: _, [], _, _, _, _, h, _ => by simp at h
  | f :: fs, s :: ss, 0, _, _, h1, h2, h3 => by
    cases h1; cases h2
    rw [partsL, h3]; rfl
  | f :: fs, s :: ss, k + 1, g, u, h1, h2, h3 => by
    rw [partsL, partsL_none fs ss k g u h1 h2 h3]
    cases partL f s <;> rfl
def cronL (s : List UInt8) : Option (List (List Int) × List Bool) := if (pieces 32 s).length = 5 then (partsL fieldsL (pieces 32 s)).map fun ls => (ls, (pieces 32 s).map fun x => decide (x = [42])) else none
def CronAt (O : Nat → Prop) (H : Heap) (ls : List (List Int)) (st : List Bool) (v : Value) : Prop := ∃ q0 q1 q2 q3 q4 l0 l1 l2 l3 l4 b0 b1 b2 b3 b4, ls = [l0, l1, l2, l3, l4] ∧ st = [b0, b1, b2, b3, b4] ∧
  v = .agg #[slv q0 (List.length l0) 1, slv q1 (List.length l1) 1, slv q2 (List.length l2) 1, slv q3 (List.length l3) 1, slv q4 (List.length l4) 1, .bool b0, .bool b1, .bool b2, .bool b3, .bool b4] ∧
  CAt H q0 (i64s l0) ∧ CAt H q1 (i64s l1) ∧ CAt H q2 (i64s l2) ∧ CAt H q3 (i64s l3) ∧ CAt H q4 (i64s l4) ∧ ∀ B, (inq q0 B ∨ inq q1 B ∨ inq q2 B ∨ inq q3 B ∨ inq q4 B) → O B
def CronR (H : Heap) (s : List UInt8) (call : Option (Ending × Heap)) : Prop := ∃ v e H', call = some (.returned (.tuple #[v, i64v e]), H') ∧ Pr H.length H H' ∧
  ((200 < s.length ∧ e = 4 ∧ v = .agg zeroC.toArray) ∨ (s.length ≤ 200 ∧ cronL s = none ∧ e = 2 ∧ v = .agg zeroC.toArray) ∨ (s.length ≤ 200 ∧ ∃ ls st, cronL s = some (ls, st) ∧ e = 0 ∧ CronAt (fun B => H.length ≤ B ∧ B < H'.length) H' ls st v))
theorem junkT_no {ops : Array Oper} {t : Nat → Value} {i : Nat} (h : ops.toList.any (fun o => o.dst == some i) = false) : junkT ops t i = t i := by unfold junkT; rw [h]; rfl
theorem cron_badR {H G : Heap} {s : List UInt8} {ps : List (List UInt8)} {C : List Value} {p : Nat} (w : CW H G ps C) (hC : C.length = 10) (h : cronL s = none) (hs : s.length ≤ 200) (hp : p ≤ H.length) {t : Nat → Value} (h2 : t 2 = ptr0 H.length 10) (h3 : t 3 = ptr0 (H.length + 1) 1) :
    CronR H s (leaveA (dfnA Tryz.prog cl X (limR Tryz.prog cl X)) Tryz.prog #[.cell 2 64, .cell 3 36] p t [{ target := .fn (.func 81) #[ptr0 H.length 10, ptr0 (H.length + 1) 1], args := #[] }] (some cronP) G) := by
  obtain ⟨fs, hfs, hss⟩ := w.c
  obtain ⟨fe, hfe, he⟩ := w.e
  have hn := w.n
  obtain ⟨H', g1, g2, g3⟩ := cron_bad (p := p) hss hC hfs he hfe hp h2 h3
  exact ⟨_, _, H', g1, ⟨by omega, fun B hB => (g3 B (by omega) (by omega) (by omega)).trans (w.pr.2 B hB)⟩, .inr (.inl ⟨hs, h, rfl, rfl⟩)⟩
theorem Fcron (s : List UInt8) (hs : s.length ≤ 100000) {p : Nat} {H : Heap} (hp : p ≤ H.length) : CronR H s (F 44 #[str s] p H) := by
  rw [F, F_def (f := 44) (X := X) (cl := cl) rfl rfl rfl Tryz.func44 rfl, Tryz.results44]
  have al : allocC Tryz.prog 64 = some zeroC.toArray := al64
  by_cases hlong : (200 : Int) < s.length
  · unfold zeroC at al
    have hk1 : ∀ (a b : Blk), (H ++ [a] ++ [b])[H.length]? = some a := fun a b => by rw [List.getElem?_append_left (by simp)]; simp
    have hk2 : ∀ (a b : Blk), (H ++ [a] ++ [b])[H.length + 1]? = some b := fun a b => by rw [List.getElem?_append_right (by simp)]; simp
    have hk3 : ∀ (a b c : Blk), ((H ++ [a] ++ [b]).set H.length c) = H ++ [c] ++ [b] := fun a b c => by rw [List.set_append, if_pos (by simp), List.set_append, if_neg (by omega), Nat.sub_self]; rfl
    have hk4 : ∀ (a b c : Blk), ((H ++ [a] ++ [b]).set (H.length + 1) c) = H ++ [a] ++ [c] := fun a b c => by rw [List.set_append, if_neg (by simp)]; simp
    simp (disch := first | assumption | omega | (simp only [go_sem] <;> omega) | fail) only [go_sem, hlong, al, hk1, hk2, hk3, hk4]
    exact ⟨_, 4, _, rfl, ⟨by simp <;> omega, fun B hB => by rw [List.append_assoc]; exact List.getElem?_append_left hB⟩, .inl ⟨by omega, rfl, rfl⟩⟩
  · have sp := fun p H => Fsplit (s := s) (c := 32) (by omega) p H
    have hpl : ∀ x ∈ pieces 32 s, x.length ≤ s.length := fun x hx => pieces_le 32 _ s x hx
    have hcr : cronL s = if (pieces 32 s).length = 5 then (partsL fieldsL (pieces 32 s)).map fun ls => (ls, (pieces 32 s).map fun x => decide (x = [42])) else none := rfl
    generalize pieces 32 s = ps at *
    have hz10 : zeroC.length = 10 := rfl
    have w0 : CW H (H ++ [⟨0, 64, zeroC.toArray, 0, false, []⟩] ++ [⟨0, 36, #[i64v 0], 0, false, []⟩] ++ [⟨0, 9, (ps.map str).toArray, ps.length, false, []⟩]) ps zeroC :=
      ⟨⟨0, by omega, by rw [List.getElem?_append_left (by simp), List.getElem?_append_left (by simp)]; simp⟩, ⟨0, by omega, by rw [List.getElem?_append_left (by simp), List.getElem?_append_right (by simp)]; simp⟩, by rw [List.getElem?_append_right (by simp)]; simp,
        ⟨by simp, fun B hB => by rw [List.getElem?_append_left (by simp; omega), List.getElem?_append_left (by simp; omega), List.getElem?_append_left hB]⟩, by simp⟩
    by_cases h5 : (ps.length : Int) = 5
    · have hps5 : ps.length = 5 := by omega
      have hf5 : fieldsL.length = 5 := rfl
      rw [if_pos hps5] at hcr
      simp (disch := first | assumption | omega | (simp only [go_sem] <;> omega) | fail) only [go_sem, hlong, al, sp, h5, Funless, Ffields, hz10]
      generalize hL : Code.loop _ = L
      generalize hds : ([{ target := .fn (.func 81) #[.pointer (some ⟨H.length, 0, some 10⟩), .pointer (some ⟨H.length + 1, 0, some 1⟩)], args := #[] }] : List Deferred) = ds
      have step : ∀ (i : Nat) (f : FieldL) (C : List Value) (t : Nat → Value) (G : Heap), (hi : i < ps.length) → fieldsL[i]? = some f → CW H G ps C → C.length = 10 → t 2 = ptr0 H.length 10 → t 3 = ptr0 (H.length + 1) 1 → t 4 = .slice (some ⟨H.length + 2, 0, some ps.length⟩) ps.length 1 → t 18 = fieldsV → t 19 = i64v i →
          (∃ xs q t' G', partL f ps[i] = some xs ∧ limR Tryz.prog cl X L p ⟨t, ds, G⟩ = limR Tryz.prog cl X L p ⟨t', ds, G'⟩ ∧ CW H G' ps ((C.set i (slv q xs.length 1)).set (5 + i) (.bool (decide (ps[i] = [42])))) ∧ CAt G' q (i64s xs) ∧ (∀ B, inq q B → G.length ≤ B ∧ B < G'.length) ∧ G.length ≤ G'.length ∧ (∀ B, B < G.length → B ≠ H.length → G'[B]? = G[B]?) ∧
            t' 2 = ptr0 H.length 10 ∧ t' 3 = ptr0 (H.length + 1) 1 ∧ t' 4 = .slice (some ⟨H.length + 2, 0, some ps.length⟩) ps.length 1 ∧ t' 18 = fieldsV ∧ t' 19 = i64v (i + 1 : Nat)) ∨
          (partL f ps[i] = none ∧ ∃ t' G', limR Tryz.prog cl X L p ⟨t, ds, G⟩ = some (.panic cronP, ⟨t', ds, G'⟩) ∧ CW H G' ps C ∧ t' 2 = ptr0 H.length 10 ∧ t' 3 = ptr0 (H.length + 1) 1) := by
        intro i f C t G hi hfi w hC h2 h3 h4 h18 h19
        have hfo := fields_ok f (List.mem_of_getElem? hfi)
        have hfv := fields_at i f hfi
        obtain ⟨⟨flc, hflc, hc⟩, ⟨fle, hfle, he⟩, hs2, hpr, hn⟩ := w
        have hlt : (i : Int) < 5 := by omega
        have hpi : (ps.map str)[i]? = some (str ps[i]) := by simp [hi]
        have hsz1 : (ps.map str).length = ps.length := by simp
        rw [← hL, E_loop, hL]
        have hkk : ∀ (X : Heap) B, B < G.length → (G ++ X)[B]? = G[B]? := fun X B hB => List.getElem?_append_left hB
        have hcG : ∀ X : Heap, (G ++ X)[H.length]? = G[H.length]? := fun X => hkk X _ (by omega)
        have hsG : ∀ X : Heap, (G ++ X)[H.length + 2]? = G[H.length + 2]? := fun X => hkk X _ (by omega)
        have hsG2 : ∀ X Y : Heap, (G ++ X ++ Y)[H.length + 2]? = G[H.length + 2]? := fun X Y => by rw [List.append_assoc]; exact hkk _ _ (by omega)
        have hcG2 : ∀ X Y : Heap, (G ++ X ++ Y)[H.length]? = G[H.length]? := fun X Y => by rw [List.append_assoc]; exact hkk _ _ (by omega)
        have hset : ∀ (l : Heap) (x : Blk) (B : Nat), B < G.length → (l.set G.length x)[B]? = l[B]? := fun l x B hB => List.getElem?_set_ne (by omega)
        have hh1 : H.length < G.length := by omega
        have hh2 : H.length + 2 < G.length := by omega
        rcases Fpart f hfo ps[i] (by have := hpl ps[i] (List.getElem_mem hi); omega) (p := p) (H := G ++ [⟨0, 136, #[.int .i64 f.low, .int .i64 f.high, str f.names, .int .i64 f.over], 4, false, []⟩]) with ⟨Z, ⟨xs, q, hx, hF, hq1, hq2⟩ | ⟨hx, hF⟩⟩
        · simp only [FieldL.v] at hF
          have hC1 : C.toArray.size = 10 := by simp [hC]
          have hq0 : ∀ (X Y : Heap) (x : Blk), ((G ++ X ++ Y).set H.length x)[H.length]? = some x := fun X Y x => List.getElem?_set_self (by simp; omega)
          have hCs : ∀ v, (C.set i v).length = 10 := fun v => by simp [hC]
          have hi5 : i < 5 := by omega
          have hCs2 := hCs (slv q xs.length 1)
          have hMid : (G ++ ([⟨0, 136, #[.int .i64 f.low, .int .i64 f.high, str f.names, .int .i64 f.over], 4, false, []⟩] : Heap) ++ Z)[G.length]? = some ⟨0, 136, #[.int .i64 f.low, .int .i64 f.high, str f.names, .int .i64 f.over], 4, false, []⟩ := by
            rw [List.getElem?_append_left (by simp)]; exact at_endQ rfl
          have hMidS : ∀ x : Blk, ((G ++ ([⟨0, 136, #[.int .i64 f.low, .int .i64 f.high, str f.names, .int .i64 f.over], 4, false, []⟩] : Heap) ++ Z).set H.length x)[G.length]? = some ⟨0, 136, #[.int .i64 f.low, .int .i64 f.high, str f.names, .int .i64 f.over], 4, false, []⟩ := fun x => by
            rw [List.getElem?_set_ne (by omega)]; exact hMid
          have hS2 : ∀ x : Blk, ((G ++ ([⟨0, 136, #[.int .i64 f.low, .int .i64 f.high, str f.names, .int .i64 f.over], 4, false, []⟩] : Heap) ++ Z).set H.length x)[H.length + 2]? = G[H.length + 2]? := fun x => by
            rw [List.getElem?_set_ne (by omega)]; exact hsG2 _ _
          simp (disch := first | assumption | omega | (simp only [go_sem] <;> omega) | fail) only [go_sem, h2, h3, h4, h18, h19, hlt, hfv, hpi, hsz1, hset, hh1, hh2, hsG, hsG2, hs2, hF, ia61, ia62, hcG2, hc, hC, hq0, hCs, List.set_set, putAll_one, Nat.zero_add, oneC_slv, hMid, hMidS, hS2, eq_self, and_self]
          refine .inl ⟨xs, q, _, _, hx, rfl, ?_⟩
          have hWl : G.length + 1 ≤ (G ++ ([⟨0, 136, #[.int .i64 f.low, .int .i64 f.high, str f.names, .int .i64 f.over], 4, false, []⟩] : Heap) ++ Z).length := by simp <;> omega
          have hWk : ∀ B, B < G.length → (G ++ ([⟨0, 136, #[.int .i64 f.low, .int .i64 f.high, str f.names, .int .i64 f.over], 4, false, []⟩] : Heap) ++ Z)[B]? = G[B]? := fun B hB => by rw [List.append_assoc]; exact List.getElem?_append_left hB
          have hq2' : ∀ B, inq q B → G.length + 1 ≤ B ∧ B < (G ++ ([⟨0, 136, #[.int .i64 f.low, .int .i64 f.high, str f.names, .int .i64 f.over], 4, false, []⟩] : Heap) ++ Z).length := fun B hB => by have := hq2 B hB; simp only [List.length_append, List.length_cons, List.length_nil] at this ⊢; omega
          clear hq2 hF
          generalize G ++ ([⟨0, 136, #[.int .i64 f.low, .int .i64 f.high, str f.names, .int .i64 f.over], 4, false, []⟩] : Heap) ++ Z = W at *
          refine ⟨⟨⟨10, Nat.le_refl _, List.getElem?_set_self (by omega)⟩, ⟨fle, hfle, by rw [List.getElem?_set_ne (by omega), hWk _ (by omega)]; exact he⟩, by rw [List.getElem?_set_ne (by omega), hWk _ (by omega)]; exact hs2, ⟨by rw [List.length_set]; omega, fun B hB => by rw [List.getElem?_set_ne (by omega), hWk _ (by omega)]; exact hpr.2 B hB⟩, by rw [List.length_set]; omega⟩,
            hq1.keep fun B hB => List.getElem?_set_ne (by have := hq2' B hB; omega), fun B hB => by have := hq2' B hB; rw [List.length_set]; omega, by rw [List.length_set]; omega, fun B h1 h2 => by rw [List.getElem?_set_ne (Ne.symm h2)]; exact hWk B h1, ?_⟩
          simp only [go_sem, h2, h3, h4, h18] <;> rfl
        · simp only [FieldL.v] at hF
          have hqc := fun xs ts d e s => okX_some (c0 := cl) (.call { callee := .value (.func 85), args := xs, argTypes := ts }) d e s (okQ_call (c0 := cl) 85 xs ts d s.t rfl)
          simp (disch := first | assumption | omega | (simp only [go_sem] <;> omega) | fail) only [go_sem, h2, h3, h4, h18, h19, hlt, hfv, hpi, hsz1, hset, hh1, hh2, hsG, hsG2, hs2, hF, hqc]
          rw [evRestT_do]; rotate_left; · kernel_rfl
          · decide
          simp (disch := first | assumption | omega | (simp only [go_sem] <;> omega) | fail) only [go_sem, h4]
          rw [evRestT_do]; rotate_left; · kernel_rfl
          · decide
          simp (disch := first | assumption | omega | (simp only [go_sem] <;> omega) | fail) only [go_sem, h4]
          rw [evRestT_do]; rotate_left; · kernel_rfl
          · decide
          simp (disch := first | assumption | omega | (simp only [go_sem] <;> omega) | fail) only [go_sem, h4, hlt]
          rw [evRestT_do]; rotate_left; · kernel_rfl
          · decide
          simp (disch := first | assumption | omega | (simp only [go_sem] <;> omega) | fail) only [go_sem, h4, hsG2, hs2, hsz1, hpi]
          rw [evRestT_do]; rotate_left; · kernel_rfl
          · decide
          simp (disch := first | assumption | omega | (simp only [go_sem] <;> omega) | fail) only [go_sem]
          rw [evRestT_do]; rotate_left; · kernel_rfl
          · decide
          simp (disch := first | assumption | omega | (simp only [go_sem] <;> omega) | fail) only [go_sem, h2]
          rw [evRestT_skip]; rotate_left; · kernel_rfl
          rw [evRestT_skip]; rotate_left; · kernel_rfl
          rw [evRestT_do]; rotate_left; · kernel_rfl
          · decide
          simp (disch := first | assumption | omega | (simp only [go_sem] <;> omega) | fail) only [go_sem, h2]
          rw [evRestT_skip]; rotate_left; · kernel_rfl
          rw [evRestT_skip]; rotate_left; · kernel_rfl
          simp (disch := first | assumption | omega | (simp only [go_sem] <;> omega) | fail) only [go_sem, evRestT_nil, Option.map_some]
          refine .inr ⟨hx, _, _, rfl, ?_⟩
          have hWl : G.length + 1 ≤ (G ++ ([⟨0, 136, #[.int .i64 f.low, .int .i64 f.high, str f.names, .int .i64 f.over], 4, false, []⟩] : Heap) ++ Z).length := by simp <;> omega
          have hWk : ∀ B, B < G.length → (G ++ ([⟨0, 136, #[.int .i64 f.low, .int .i64 f.high, str f.names, .int .i64 f.over], 4, false, []⟩] : Heap) ++ Z)[B]? = G[B]? := fun B hB => by rw [List.append_assoc]; exact List.getElem?_append_left hB
          clear hF
          generalize G ++ ([⟨0, 136, #[.int .i64 f.low, .int .i64 f.high, str f.names, .int .i64 f.over], 4, false, []⟩] : Heap) ++ Z = W at *
          refine ⟨⟨⟨flc, hflc, by rw [hWk _ (by omega)]; exact hc⟩, ⟨fle, hfle, by rw [hWk _ (by omega)]; exact he⟩, by rw [hWk _ (by omega)]; exact hs2, ⟨by omega, fun B hB => by rw [hWk _ (by omega)]; exact hpr.2 B hB⟩, by omega⟩, ?_, ?_⟩
          · rw [junkT_no (by kernel_rfl)]; simp only [go_sem, h2]
          · rw [junkT_no (by kernel_rfl)]; simp only [go_sem, h3]
      have run : ∀ (k i : Nat) (C : List Value) (t : Nat → Value) (G : Heap), i + k = 5 → CW H G ps C → C.length = 10 → t 2 = ptr0 H.length 10 → t 3 = ptr0 (H.length + 1) 1 → t 4 = .slice (some ⟨H.length + 2, 0, some ps.length⟩) ps.length 1 → t 18 = fieldsV → t 19 = i64v i →
          (∀ j, j < i → ∃ f u xs q, fieldsL[j]? = some f ∧ ps[j]? = some u ∧ partL f u = some xs ∧ C[j]? = some (slv q xs.length 1) ∧ C[5 + j]? = some (.bool (decide (u = [42]))) ∧ CAt G q (i64s xs) ∧ ∀ B, inq q B → H.length + 3 ≤ B ∧ B < G.length) →
          (∃ t' G' C', limR Tryz.prog cl X L p ⟨t, ds, G⟩ = some (.exit 0, ⟨t', ds, G'⟩) ∧ CW H G' ps C' ∧ C'.length = 10 ∧ t' 2 = ptr0 H.length 10 ∧ t' 3 = ptr0 (H.length + 1) 1 ∧
            ∀ j, j < 5 → ∃ f u xs q, fieldsL[j]? = some f ∧ ps[j]? = some u ∧ partL f u = some xs ∧ C'[j]? = some (slv q xs.length 1) ∧ C'[5 + j]? = some (.bool (decide (u = [42]))) ∧ CAt G' q (i64s xs) ∧ ∀ B, inq q B → H.length + 3 ≤ B ∧ B < G'.length) ∨
          (partsL fieldsL ps = none ∧ ∃ t' G' C', limR Tryz.prog cl X L p ⟨t, ds, G⟩ = some (.panic cronP, ⟨t', ds, G'⟩) ∧ CW H G' ps C' ∧ C'.length = 10 ∧ t' 2 = ptr0 H.length 10 ∧ t' 3 = ptr0 (H.length + 1) 1) := by
        intro k
        induction k with
        | zero =>
          intro i C t G hi w hC h2 h3 h4 h18 h19 hd
          left
          obtain rfl : i = 5 := by omega
          rw [← hL, E_loop, hL]
          simp (disch := first | assumption | omega | (simp only [go_sem] <;> omega) | fail) only [go_sem, h2, h3, h4, h18, h19]
          exact ⟨_, G, C, rfl, w, hC, by simp only [go_sem, h2], by simp only [go_sem, h3], hd⟩
        | succ k ih =>
          intro i C t G hi w hC h2 h3 h4 h18 h19 hd
          have hfi : fieldsL[i]? = some (fieldsL[i]'(by omega)) := List.getElem?_eq_getElem (by omega)
          have hip : i < ps.length := by omega
          rcases step i _ C t G hip hfi w hC h2 h3 h4 h18 h19 with ⟨xs, q, t', G', e1, e2, w', e3, e4, e5, e6, r2, r3, r4, r18, r19⟩ | ⟨e1, t', G', e2, w', r2, r3⟩
          · rw [e2]
            have hlen2 : ∀ (v w : Value), ((C.set i v).set (5 + i) w).length = 10 := fun v w => by simp [hC]
            refine ih (i + 1) _ t' G' (by omega) w' (hlen2 _ _) r2 r3 r4 r18 r19 fun j hj => ?_
            by_cases hji : j = i
            · subst hji
              refine ⟨_, _, xs, q, hfi, List.getElem?_eq_getElem hip, e1, ?_, ?_, e3, fun B hB => ⟨by have := e4 B hB; have := w.n; omega, (e4 B hB).2⟩⟩
              · rw [List.getElem?_set_ne (by omega), List.getElem?_set_self (by omega)]
              · rw [List.getElem?_set_self (by simp [hC]; omega)]
            · obtain ⟨f', u', xs', q', d1, d2, d3, d4, d5, d6, d7⟩ := hd j (by omega)
              refine ⟨f', u', xs', q', d1, d2, d3, ?_, ?_, d6.keep fun B hB => e6 B (d7 B hB).2 (by have := d7 B hB; omega), fun B hB => ⟨(d7 B hB).1, by have := d7 B hB; omega⟩⟩
              · rw [List.getElem?_set_ne (by omega), List.getElem?_set_ne (by omega)]; exact d4
              · rw [List.getElem?_set_ne (by omega), List.getElem?_set_ne (by omega)]; exact d5
          · exact .inr ⟨partsL_none _ _ i _ _ hfi (List.getElem?_eq_getElem hip) e1, t', G', C, e2, w', hC, r2, r3⟩
      generalize hT : upd _ 19 _ = T
      rcases run 5 0 zeroC T _ rfl w0 rfl (by rw [← hT]; simp only [go_sem] <;> rfl) (by rw [← hT]; simp only [go_sem] <;> rfl) (by rw [← hT]; simp only [go_sem] <;> rfl) (by rw [← hT]; simp only [go_sem] <;> rfl) (by rw [← hT]; simp only [go_sem] <;> rfl) (fun j hj => by omega) with ⟨t', G', C', e2, w', hC', r2, r3, hd⟩ | ⟨e1, t', G', C', e2, w', hC', r2, r3⟩
      · rw [e2]
        obtain ⟨fc, hfc, hcc⟩ := w'.c
        obtain ⟨fe, hfe, hee⟩ := w'.e
        have hpr := w'.pr
        have hn := w'.n
        clear w' w0 step run
        match ps, hps5, C', hC' with
        | [v0, v1, v2, v3, v4], _, [c0, c1, c2, c3, c4, d0, d1, d2, d3, d4], _ =>
          obtain ⟨f0, u0, xs0, q0, a0, b0, p0, s0, o0, g0, y0⟩ := hd 0 (by omega)
          obtain rfl := Option.some.inj (show some c0 = some _ from s0)
          obtain rfl := Option.some.inj (show some d0 = some _ from o0)
          obtain rfl := Option.some.inj (show some _ = some f0 from a0)
          obtain rfl := Option.some.inj (show some v0 = some u0 from b0)
          obtain ⟨f1, u1, xs1, q1, a1, b1, p1, s1, o1, g1, y1⟩ := hd 1 (by omega)
          obtain rfl := Option.some.inj (show some c1 = some _ from s1)
          obtain rfl := Option.some.inj (show some d1 = some _ from o1)
          obtain rfl := Option.some.inj (show some _ = some f1 from a1)
          obtain rfl := Option.some.inj (show some v1 = some u1 from b1)
          obtain ⟨f2, u2, xs2, q2, a2, b2, p2, s2, o2, g2, y2⟩ := hd 2 (by omega)
          obtain rfl := Option.some.inj (show some c2 = some _ from s2)
          obtain rfl := Option.some.inj (show some d2 = some _ from o2)
          obtain rfl := Option.some.inj (show some _ = some f2 from a2)
          obtain rfl := Option.some.inj (show some v2 = some u2 from b2)
          obtain ⟨f3, u3, xs3, q3, a3, b3, p3, s3, o3, g3, y3⟩ := hd 3 (by omega)
          obtain rfl := Option.some.inj (show some c3 = some _ from s3)
          obtain rfl := Option.some.inj (show some d3 = some _ from o3)
          obtain rfl := Option.some.inj (show some _ = some f3 from a3)
          obtain rfl := Option.some.inj (show some v3 = some u3 from b3)
          obtain ⟨f4, u4, xs4, q4, a4, b4, p4, s4, o4, g4, y4⟩ := hd 4 (by omega)
          obtain rfl := Option.some.inj (show some c4 = some _ from s4)
          obtain rfl := Option.some.inj (show some d4 = some _ from o4)
          obtain rfl := Option.some.inj (show some _ = some f4 from a4)
          obtain rfl := Option.some.inj (show some v4 = some u4 from b4)
          have hpl2 : partsL fieldsL [v0, v1, v2, v3, v4] = some [xs0, xs1, xs2, xs3, xs4] := by
            simp only [fieldsL, partsL]
            rw [p0, p1, p2, p3, p4]
            rfl
          rw [hpl2] at hcr
          have hN1 : ∀ x : Blk, (G'.set H.length x)[H.length + 1]? = G'[H.length + 1]? := fun x => List.getElem?_set_ne (by omega)
          unfold ptr0 at r2 r3
          simp (disch := first | assumption | omega | (simp only [go_sem] <;> omega) | fail) only [go_sem, r2, r3, hcc, hee, hN1]
          rw [← hds]
          have hset : ∀ B, B ≠ H.length → B ≠ H.length + 1 → ((G'.set H.length ⟨0, 64, #[slv q0 xs0.length 1, slv q1 xs1.length 1, slv q2 xs2.length 1, slv q3 xs3.length 1, slv q4 xs4.length 1, .bool (decide (v0 = [42])), .bool (decide (v1 = [42])), .bool (decide (v2 = [42])), .bool (decide (v3 = [42])), .bool (decide (v4 = [42]))], 10, false, []⟩).set (H.length + 1) ⟨0, 36, #[.int .i64 0], 1, false, []⟩)[B]? = G'[B]? := fun B h1 h2 => by rw [List.getElem?_set_ne (Ne.symm h2), List.getElem?_set_ne (Ne.symm h1)]
          have hA1 : ((G'.set H.length ⟨0, 64, #[slv q0 xs0.length 1, slv q1 xs1.length 1, slv q2 xs2.length 1, slv q3 xs3.length 1, slv q4 xs4.length 1, .bool (decide (v0 = [42])), .bool (decide (v1 = [42])), .bool (decide (v2 = [42])), .bool (decide (v3 = [42])), .bool (decide (v4 = [42]))], 10, false, []⟩).set (H.length + 1) ⟨0, 36, #[.int .i64 0], 1, false, []⟩)[H.length]? = some ⟨0, 64, ([slv q0 xs0.length 1, slv q1 xs1.length 1, slv q2 xs2.length 1, slv q3 xs3.length 1, slv q4 xs4.length 1, .bool (decide (v0 = [42])), .bool (decide (v1 = [42])), .bool (decide (v2 = [42])), .bool (decide (v3 = [42])), .bool (decide (v4 = [42]))] : List Value).toArray, 10, false, []⟩ := by rw [List.getElem?_set_ne (by omega)]; exact List.getElem?_set_self (by omega)
          have hB1 : ((G'.set H.length ⟨0, 64, #[slv q0 xs0.length 1, slv q1 xs1.length 1, slv q2 xs2.length 1, slv q3 xs3.length 1, slv q4 xs4.length 1, .bool (decide (v0 = [42])), .bool (decide (v1 = [42])), .bool (decide (v2 = [42])), .bool (decide (v3 = [42])), .bool (decide (v4 = [42]))], 10, false, []⟩).set (H.length + 1) ⟨0, 36, #[.int .i64 0], 1, false, []⟩)[H.length + 1]? = some ⟨0, 36, #[.int .i64 0], 1, false, []⟩ := List.getElem?_set_self (by rw [List.length_set]; omega)
          have hZl : ((G'.set H.length ⟨0, 64, #[slv q0 xs0.length 1, slv q1 xs1.length 1, slv q2 xs2.length 1, slv q3 xs3.length 1, slv q4 xs4.length 1, .bool (decide (v0 = [42])), .bool (decide (v1 = [42])), .bool (decide (v2 = [42])), .bool (decide (v3 = [42])), .bool (decide (v4 = [42]))], 10, false, []⟩).set (H.length + 1) ⟨0, 36, #[.int .i64 0], 1, false, []⟩).length = G'.length := by rw [List.length_set, List.length_set]
          generalize (G'.set H.length ⟨0, 64, #[slv q0 xs0.length 1, slv q1 xs1.length 1, slv q2 xs2.length 1, slv q3 xs3.length 1, slv q4 xs4.length 1, .bool (decide (v0 = [42])), .bool (decide (v1 = [42])), .bool (decide (v2 = [42])), .bool (decide (v3 = [42])), .bool (decide (v4 = [42]))], 10, false, []⟩).set (H.length + 1) ⟨0, 36, #[.int .i64 0], 1, false, []⟩ = Z at *
          refine ⟨_, 0, Z, cron_ok (p := p) hA1 rfl (by omega) hB1 (by omega) (by simp only [go_sem, r2]) (by simp only [go_sem, r3]), ⟨by omega, fun B hB => (hset B (by omega) (by omega)).trans (hpr.2 B hB)⟩, .inr (.inr ⟨by omega, _, _, hcr, rfl, q0, q1, q2, q3, q4, xs0, xs1, xs2, xs3, xs4, _, _, _, _, _, rfl, rfl, rfl, ?_, ?_, ?_, ?_, ?_, ?_⟩)⟩
          · exact g0.keep fun B hB => hset B (by have := y0 B hB; omega) (by have := y0 B hB; omega)
          · exact g1.keep fun B hB => hset B (by have := y1 B hB; omega) (by have := y1 B hB; omega)
          · exact g2.keep fun B hB => hset B (by have := y2 B hB; omega) (by have := y2 B hB; omega)
          · exact g3.keep fun B hB => hset B (by have := y3 B hB; omega) (by have := y3 B hB; omega)
          · exact g4.keep fun B hB => hset B (by have := y4 B hB; omega) (by have := y4 B hB; omega)
          · rintro B (hB | hB | hB | hB | hB)
            · have := y0 B hB; omega
            · have := y1 B hB; omega
            · have := y2 B hB; omega
            · have := y3 B hB; omega
            · have := y4 B hB; omega
      · rw [e2]
        simp (disch := first | assumption | omega | (simp only [go_sem] <;> omega) | fail) only [go_sem]
        rw [← hds]
        exact cron_badR w' hC' (by rw [hcr, e1]; rfl) (by omega) hp r2 r3
    · have hps5 : ¬ ps.length = 5 := by omega
      rw [if_neg hps5] at hcr
      simp (disch := first | assumption | omega | (simp only [go_sem] <;> omega) | fail) only [go_sem, hlong, al, sp, h5, Funless, hz10]
      exact cron_badR w0 rfl hcr (by omega) hp (by simp only [go_sem]) (by simp only [go_sem])
def knownV (k : Int × List UInt8) : Value := .agg #[.int .i64 k.1, str k.2]
theorem stoodK : Tryz.prog.stoodInHeld 122 = false := by kernel_rfl
theorem pK0 (cs : Array Value) (o : Nat) : partV Tryz.prog 3 cs o = cs[o]? := by simp only [partV, un3, if_true, ag3, Bool.false_eq_true, if_false]
theorem pK1 (cs : Array Value) (o : Nat) : partV Tryz.prog 9 cs o = cs[o]? := by simp only [partV, un9, if_true, ag9, Bool.false_eq_true, if_false]
theorem eqKnown (a b : Int × List UInt8) : pureRun Tryz.prog (Op.equal 122 (knownV a) (knownV b)) = some (decide (a = b)) := by
  obtain ⟨a1, a2⟩ := a
  obtain ⟨b1, b2⟩ := b
  show pureRun Tryz.prog (Op.equalIn (9998 + 1 + 1) 122 (.agg #[.int .i64 a1, str a2]) (.agg #[.int .i64 b1, str b2])) = _
  rw [eq_struct Tryz.underlying122 stoodK]
  simp only [fieldsEq, pK0, pK1, List.toList_toArray, List.getElem?_toArray, List.getElem?_cons_zero, List.getElem?_cons_succ, Option.bind_some, eqIn_int Tryz.underlying3, eqIn_string Tryz.underlying9]
  by_cases h1 : a1 = b1 <;> by_cases h2 : a2 = b2 <;> simp [h1, h2]
theorem chkKnown (b : Bool) (n : Int) (s : List UInt8) : pureRun Tryz.prog (Instr.checkKey b 10000 122 (.agg #[.int .i64 n, .string ⟨s.toArray⟩])) = some () := by kernel_rfl
theorem keysKnown : Keys Tryz.prog 120 122 3 knownV (.int .i64 0) where
  t := Tryz.underlying120
  u := ⟨_, Tryz.underlying122, fun a b => rfl⟩
  eq := eqKnown
  chk b k := chkKnown b k.1 k.2
  fl k := by obtain ⟨n, s⟩ := k; simp [knownV, flat1, flat]
  z := zr3
def pairV (k : Int × Int) : Value := .agg #[.int .i64 k.1, .int .i64 k.2]
theorem eqPair (a b : Int × Int) : pureRun Tryz.prog (Op.equal 82 (pairV a) (pairV b)) = some (decide (a = b)) := by
  obtain ⟨a1, a2⟩ := a
  obtain ⟨b1, b2⟩ := b
  show pureRun Tryz.prog (Op.equalIn (9998 + 1 + 1) 82 (.agg #[.int .i64 a1, .int .i64 a2]) (.agg #[.int .i64 b1, .int .i64 b2])) = _
  unfold Op.equalIn
  rw [pureRun_bind, pureRun_underlying, Tryz.underlying82]
  simp only [Option.bind_some]
  have hsz : pureRun Tryz.prog (sizeOf 3) = some 1 := by kernel_rfl
  rw [pureRun_bind, hsz]
  simp only [Option.bind_some]
  simp only [Std.Legacy.Range.forIn_eq_forIn_range', Std.Legacy.Range.size, Nat.sub_zero, Nat.add_one_sub_one, Nat.div_one, List.range'_succ, List.range'_zero]
  by_cases h1 : a1 = b1
  · by_cases h2 : a2 = b2
    · simp [pureRun_bind, List.forIn_cons, pureRun_part, pK0, eqIn_int Tryz.underlying3, h1, h2]
    · simp [pureRun_bind, List.forIn_cons, pureRun_part, pK0, eqIn_int Tryz.underlying3, h1, h2]
  · simp [pureRun_bind, List.forIn_cons, pureRun_part, pK0, eqIn_int Tryz.underlying3, h1]
theorem chkPair (b : Bool) (n m : Int) : pureRun Tryz.prog (Instr.checkKey b 10000 82 (.agg #[.int .i64 n, .int .i64 m])) = some () := by kernel_rfl
theorem keysPair : Keys Tryz.prog 80 82 3 pairV (.int .i64 0) where
  t := Tryz.underlying80
  u := ⟨_, Tryz.underlying82, fun a b => rfl⟩
  eq := eqPair
  chk b k := chkPair b k.1 k.2
  fl k := by obtain ⟨n, s⟩ := k; simp [pairV, flat1, flat]
  z := zr3
theorem at_end {l : Heap} {a : Blk} {k : Nat} (h : k = l.length) : (l ++ [a])[k]? = some a := by subst h; simp
theorem at_front {l : Heap} {a : Blk} {k : Nat} (h : k < l.length) : (l ++ [a])[k]? = l[k]? := List.getElem?_append_left h
theorem set_end' {l : Heap} {a b : Blk} {k : Nat} (h : k = l.length) : (l ++ [a]).set k b = l ++ [b] := by subst h; exact set_end l a b
theorem set_front {l : Heap} {a b : Blk} {k : Nat} (h : k < l.length) : (l ++ [a]).set k b = l.set k b ++ [a] := by rw [List.set_append, if_pos h]
attribute [go_sem] at_end at_front set_end' set_front
def subMay (x : SubL) (seq : Int) : Bool := addrB x.addr && feedsB x.feeds && decide ((parseL x.zone).2 = 0) && (decide (x.cron.length ≤ 200) && (cronL x.cron).isSome) && inB x.start 0 x.cursor && decide (x.cursor ≤ seq) && inB x.no 0 1073741824 && inB x.clock 0 253402300799
structure SubSz (x : SubL) : Prop where
  a : x.addr.length ≤ 100000
  f : x.feeds.length ≤ 1000000
  z : x.zone.length ≤ 100000
  c : x.cron.length ≤ 100000
theorem start_eq (a : List UInt8) : startB [97, 64, 98] a [104] [] = addrB a := by
  have e1 : addrB [97, 64, 98] = true := by decide
  have e2 : onlyB [104] hostsL = true := by decide
  have e3 : mailB [] = true := by decide
  unfold startB
  rw [e1, e2, e3]
  simp
theorem Fstsub {O : Nat → Prop} {H : Heap} {x : SubL} {cs : List Value} (hx : SubE O H x cs) (hz : SubSz x) (seq : Int) (p : Nat) : F 16 #[.agg cs.toArray, .int .i64 seq] p H = some (.returned (.bool (subMay x seq)), H) := by
  obtain ⟨q, rfl, hq, _⟩ := hx
  rw [F, F_quiet (f := 16) (X := X) (cl := cl) rfl rfl rfl Tryz.func16 rfl, Tryz.results16]
  simp only [SubL.cells]
  have s1 := FstartNil [97, 64, 98] x.addr [104] (by decide) (by have := hz.a; omega) (by decide)
  rw [start_eq] at s1
  have hlz := hz.z
  have s2 := F14 x.zone (by omega)
  have s3 := fun (a b : Blk) (p : Nat) => Ffeeds (p := p) ((hq.push [a]).push [b]) (by have := hz.f; omega)
  unfold subMay
  cases b1 : addrB x.addr with
  | false =>
    simp only [b1, sessV, Bool.false_eq_true, if_false] at s1
    simp (disch := first | assumption | omega | (simp only [go_sem] <;> omega) | fail) only [go_sem, s1]
  | true =>
    simp only [b1, sessV, if_true] at s1
    cases b2 : feedsB x.feeds with
    | false =>
      simp (disch := first | assumption | omega | (simp only [go_sem] <;> omega) | fail) only [go_sem, s1, s3, b2]
    | true =>
      by_cases b3 : (parseL x.zone).2 = 0
      · rw [decide_eq_true b3]
        rw [b3] at s2
        generalize (parseL x.zone).1 = zz at *
        have cr := fun (a b c : Blk) => Fcron x.cron hz.c (p := H.length) (H := H ++ [a] ++ [b] ++ [c]) (by simp)
        simp only [ZoneL.v] at s2
        obtain ⟨v, e, H', c1, c2, c3⟩ := cr ⟨0, 29, #[str x.addr, slv q x.feeds.length 1, str x.zone, str x.cron, i64v x.start, i64v x.cursor, i64v x.no, i64v x.clock, .bool x.off], 0, false, []⟩ ⟨0, 84, #[.int .i64 0, .int .i64 0, str [97, 64, 98], str x.addr, str [104], .slice none 0 0], 6, false, []⟩
          ⟨0, 58, #[str zz.std, .int .i64 zz.off, .bool zz.has, str zz.dst, .int .i64 zz.ahead, .int .i64 zz.from_.k, .int .i64 zz.from_.mo, .int .i64 zz.from_.we, .int .i64 zz.from_.da, .int .i64 zz.from_.at_, .int .i64 zz.to.k, .int .i64 zz.to.mo, .int .i64 zz.to.we, .int .i64 zz.to.da, .int .i64 zz.to.at_], 15, false, []⟩
        obtain ⟨Z, rfl⟩ := Pr.add c2
        have hsub : ∀ (a b c : Blk) (Z Y : Heap), (H ++ [a] ++ [b] ++ [c] ++ Z ++ Y)[H.length]? = some a := fun a b c Z Y => by simp
        have hv : ∃ C : List Value, C.length = 10 ∧ C.all oneC = true ∧ v = .agg C.toArray ∧ (e = 0 ↔ (decide (x.cron.length ≤ 200) && (cronL x.cron).isSome) = true) := by
          rcases c3 with ⟨h1, rfl, rfl⟩ | ⟨h1, h2, rfl, rfl⟩ | ⟨h1, ls, st, h2, rfl, h3⟩
          · exact ⟨zeroC, rfl, rfl, rfl, by simp; omega⟩
          · exact ⟨zeroC, rfl, rfl, rfl, by simp [h2]⟩
          · obtain ⟨_, _, _, _, _, _, _, _, _, _, _, _, _, _, _, _, _, rfl, _⟩ := h3
            refine ⟨_, rfl, ?_, rfl, by simp [h1, h2]⟩
            simp [List.all_cons, oneC_slv, oneC_bool]
        obtain ⟨C, hC1, hC2, rfl, hCe⟩ := hv
        have hpa : putAll zeroC.toArray 0 C = C.toArray := by rw [putAll_over C zeroC 0 (by rw [hC1]; decide)]; simp [hC1, zeroC]
        have al : allocC Tryz.prog 64 = some zeroC.toArray := al64
        have hz10 : zeroC.length = 10 := rfl
        by_cases b4 : e = 0
        · rw [hCe.1 b4]
          subst b4
          cases b5 : inB x.start 0 x.cursor with
          | false => simp (disch := first | assumption | omega | (simp only [go_sem] <;> omega) | fail) only [go_sem, s1, s3, b2, s2, c1, al, hC1, hC2, hz10, hpa, hsub, b5]
          | true =>
            by_cases b6 : x.cursor ≤ seq
            · rw [decide_eq_true b6]
              cases b7 : inB x.no 0 1073741824 with
              | false => simp (disch := first | assumption | omega | (simp only [go_sem] <;> omega) | fail) only [go_sem, s1, s3, b2, s2, c1, al, hC1, hC2, hz10, hpa, hsub, b5, b6, b7]
              | true => simp (disch := first | assumption | omega | (simp only [go_sem] <;> omega) | fail) only [go_sem, s1, s3, b2, s2, c1, al, hC1, hC2, hz10, hpa, hsub, b5, b6, b7]
            · rw [decide_eq_false b6]
              simp (disch := first | assumption | omega | (simp only [go_sem] <;> omega) | fail) only [go_sem, s1, s3, b2, s2, c1, al, hC1, hC2, hz10, hpa, hsub, b5, b6]
        · have : (decide (x.cron.length ≤ 200) && (cronL x.cron).isSome) = false := by rw [Bool.eq_false_iff]; exact fun h => b4 (hCe.2 h)
          rw [this]
          simp (disch := first | assumption | omega | (simp only [go_sem] <;> omega) | fail) only [go_sem, s1, s3, b2, s2, c1, al, hC1, hC2, hz10, hpa, hsub, b4]
      · rw [decide_eq_false b3]
        generalize (parseL x.zone).1 = zz at *
        generalize (parseL x.zone).2 = e at *
        simp only [ZoneL.v] at s2
        simp (disch := first | assumption | omega | (simp only [go_sem] <;> omega) | fail) only [go_sem, s1, s3, b2, s2, b3]
def ItemL.key (x : ItemL) : Int × List UInt8 := (x.feed, keyL x.id x.title x.link)
def itemsGo (seq : Int) : List ItemL → List (Int × List UInt8) → Int → Bool
  | [], _, _ => true
  | x :: r, ks, last => inB x.feed 0 7 && decide (last < x.seq) && decide (x.seq < seq) && decide (x.key ∉ ks) && itemsGo seq r (ks ++ [x.key]) x.seq
def itemsMay (l : List ItemL) (seq : Int) : Bool := itemsGo seq l [] (-1)
structure ItemSz (x : ItemL) : Prop where
  a : x.id.length ≤ 100000
  b : x.link.length ≤ 100000
  c : x.title.length ≤ 1099511627776
theorem Fitems {O : Nat → Prop} {H : Heap} {xs : List ItemL} {v : Value} (hx : ListAt ItemE 7 O H xs v) (hz : ∀ x ∈ xs, ItemSz x) (hn : xs.length ≤ 1099511627776) (seq : Int) (p : Nat) : F 39 #[v, .int .i64 seq] p H = some (.returned (.bool (itemsMay xs seq)), H) := by
  obtain ⟨q, cs, rfl, hcs, hcl, hqs, hLC⟩ := hx
  have hok : okq q xs.length := hcs.okq hcl (by omega)
  rw [F, F_quiet (f := 39) (X := X) (cl := cl) rfl rfl rfl Tryz.func39 rfl, Tryz.results39]
  have mkM := fun (t : Nat → Value) (ds : List Deferred) (H : Heap) (p d : Nat) => ev_makeMap (P := Tryz.prog) (cl := cl) (fn := limF Tryz.prog cl X) (dq := false) (p := p) (d := d) (t := t) (ds := ds) (H := H) 120 _ _ Tryz.underlying120
  simp (disch := first | assumption | omega | (simp only [go_sem] <;> omega) | fail) only [go_sem, mkM]
  generalize hL : Code.loop _ = L
  generalize hT : upd _ 13 _ = T
  unfold itemsMay
  obtain ⟨e, t', G', k1, k2⟩ := loop_up (P := Tryz.prog) (cl := cl) (X := X) (L := L) (p := H.length) (t := T) (H := H ++ [⟨1, 120, #[], 0, false, []⟩]) xs.length
    (fun i t G => Pr H.length H G ∧ H.length + 1 ≤ G.length ∧ (∃ ks last, G[H.length]? = some ⟨1, 120, #[], 0, false, ks.map fun x => (knownV x, .int .i64 1)⟩ ∧ itemsGo seq xs [] (-1) = itemsGo seq (xs.drop i) ks last ∧ t 6 = i64v last) ∧
      t 1 = i64v seq ∧ t 5 = .map (some H.length) ∧ t 11 = slv q xs.length 7 ∧ t 12 = i64v xs.length ∧ t 13 = i64v i)
    (fun e t G => (e = .exit 0 ∧ itemsGo seq xs [] (-1) = true) ∨ (e = .ret ∧ itemsGo seq xs [] (-1) = false ∧ t 4 = .bool false))
    (by
      rintro i t G hi ⟨hPr, hG, ⟨ks, last, hN, hgo, h6⟩, h1, h5, h11, h12, h13⟩
      have hlt : (i : Int) < xs.length := by omega
      have hyi : xs[i]? = some xs[i] := List.getElem?_eq_getElem hi
      have hzi := hz xs[i] (List.getElem_mem hi)
      have hs1 : CAt G q cs := hcs.keep fun B hB => hPr.2 B (by
        obtain ⟨o, m, rfl⟩ := hB
        simp only [CAt] at hcs
        obtain ⟨B', hB', _⟩ := rd_iff.1 hcs
        exact (List.getElem?_eq_some_iff.1 hB').1)
      have hE : ItemE O H xs[i] ((cs.drop (i * 7)).take 7) := LC.nth ItemE.len hLC hyi
      have hq0 : q ≠ none := fun e => by have := hok e; omega
      have hld := ld_ptqA (P := Tryz.prog) (T := 48) (o := i * 7) sz48 ag48 hs1 (by rw [hcl]; have := Nat.mul_le_mul_right 7 hi; rw [Nat.succ_mul] at this; omega) hq0
      rw [ItemE] at hE
      rw [hE] at hld
      simp only [ItemL.cells] at hld
      rw [drop_cons hi, itemsGo] at hgo
      have hkey := Fkey xs[i].id xs[i].title xs[i].link xs[i].text xs[i].at_ hzi.a hzi.b hzi.c
      have hlk := fun (a b : Blk) => look_keys keysKnown (H := G ++ [a] ++ [b]) (r := H.length) xs[i].key (by rw [List.getElem?_append_left (by simp; omega), List.getElem?_append_left (by omega)]; exact hN)
      simp only [knownV, ItemL.key] at hlk
      generalize xs[i] = y at *
      rw [← hL, E_loop, hL]
      have stop : itemsGo seq xs [] (-1) = false → ∀ T : Nat → Value, T 4 = .bool false → (Exit.ret = .exit 0 ∧ itemsGo seq xs [] (-1) = true) ∨ (Exit.ret = .ret ∧ itemsGo seq xs [] (-1) = false ∧ T 4 = .bool false) := fun h T hT => .inr ⟨rfl, h, hT⟩
      cases b1 : inB y.feed 0 7 with
      | false =>
        right
        rw [b1] at hgo
        simp (disch := first | assumption | omega | (simp only [go_sem] <;> omega) | fail) only [go_sem, h1, h5, h6, h11, h12, h13, hlt, hld, hkey, ev_lookup, hlk, b1]
        exact ⟨_, _, _, rfl, stop (by rw [hgo]; rfl) _ (by simp only [go_sem])⟩
      | true =>
        rw [b1] at hgo
        by_cases b2 : y.seq ≤ last
        · right
          rw [decide_eq_false (p := last < y.seq) (by omega)] at hgo
          simp (disch := first | assumption | omega | (simp only [go_sem] <;> omega) | fail) only [go_sem, h1, h5, h6, h11, h12, h13, hlt, hld, hkey, ev_lookup, hlk, b1, b2]
          exact ⟨_, _, _, rfl, stop (by rw [hgo]; rfl) _ (by simp only [go_sem])⟩
        · rw [decide_eq_true (p := last < y.seq) (by omega)] at hgo
          by_cases b3 : seq ≤ y.seq
          · right
            rw [decide_eq_false (p := y.seq < seq) (by omega)] at hgo
            simp (disch := first | assumption | omega | (simp only [go_sem] <;> omega) | fail) only [go_sem, h1, h5, h6, h11, h12, h13, hlt, hld, hkey, ev_lookup, hlk, b1, b2, b3]
            exact ⟨_, _, _, rfl, stop (by rw [hgo]; rfl) _ (by simp only [go_sem])⟩
          · rw [decide_eq_true (p := y.seq < seq) (by omega)] at hgo
            by_cases hk : (y.feed, keyL y.id y.title y.link) ∈ ks
            · right
              have hk' : decide (y.key ∉ ks) = false := decide_eq_false (fun h => h hk)
              rw [hk'] at hgo
              simp only [hk, if_true] at hlk
              simp (disch := first | assumption | omega | (simp only [go_sem] <;> omega) | fail) only [go_sem, h1, h5, h6, h11, h12, h13, hlt, hld, hkey, ev_lookup, hlk, b1, b2, b3]
              exact ⟨_, _, _, rfl, stop (by rw [hgo]; rfl) _ (by simp only [go_sem])⟩
            · left
              have hk' : decide (y.key ∉ ks) = true := decide_eq_true hk
              rw [hk'] at hgo
              simp only [hk, if_false] at hlk
              have hup := fun (a b : Blk) => up_keys keysKnown (p := H.length) (H := G ++ [a] ++ [b]) (r := H.length) (one := .int .i64 1) (y.feed, keyL y.id y.title y.link) hk (Nat.le_refl _) (by rw [List.getElem?_append_left (by simp; omega), List.getElem?_append_left (by omega)]; exact hN)
              simp only [knownV] at hup
              have hA1 : ∀ (x a b : Blk), (G.set H.length x ++ [a] ++ [b])[G.length]? = some a := fun x a b => by
                rw [List.getElem?_append_left (by simp), List.getElem?_append_right (by simp), List.length_set, Nat.sub_self]; rfl
              have hA2 : ∀ (x a b : Blk), (G.set H.length x ++ [a] ++ [b])[G.length + 1]? = some b := fun x a b => by
                rw [List.getElem?_append_right (by simp)]; simp
              simp (disch := first | assumption | omega | (simp only [go_sem] <;> omega) | fail) only [go_sem, h1, h5, h6, h11, h12, h13, hlt, hld, hkey, ev_lookup, ev_mapUpdate, hlk, hup, b1, b2, b3, hA1, hA2, eq_self, and_self]
              refine ⟨_, _, rfl, ?_, ?_, ⟨ks ++ [y.key], y.seq, ?_, ?_, ?_⟩, ?_⟩
              · refine ⟨by simp only [List.length_append, List.length_set]; omega, fun B hB => ?_⟩
                rw [List.getElem?_append_left (by simp only [List.length_append, List.length_set]; omega), List.getElem?_append_left (by rw [List.length_set]; omega), List.getElem?_set_ne (by omega)]
                exact hPr.2 B hB
              · simp only [List.length_append, List.length_set]; omega
              · rw [List.getElem?_append_left (by simp only [List.length_append, List.length_set]; omega), List.getElem?_append_left (by rw [List.length_set]; omega), List.getElem?_set_self (by omega)]
                rfl
              · rw [hgo]; rfl
              · simp only [go_sem]
              · simp only [go_sem, h1, h5, h11, h12] <;> rfl)
    (by
      rintro t G ⟨hPr, hG, ⟨ks, last, hN, hgo, h6⟩, h1, h5, h11, h12, h13⟩
      rw [← hL, E_loop, hL]
      have hlt : ¬ (xs.length : Int) < xs.length := by omega
      rw [List.drop_length, itemsGo] at hgo
      simp (disch := first | assumption | omega | (simp only [go_sem] <;> omega) | fail) only [go_sem, h1, h5, h6, h11, h12, h13, hlt]
      exact ⟨_, _, _, rfl, .inl ⟨rfl, hgo⟩⟩)
    ⟨⟨by simp, fun B hB => List.getElem?_append_left hB⟩, by simp, ⟨[], -1, by simp, rfl, (by rw [← hT]; simp only [go_sem] <;> rfl)⟩, (by rw [← hT]; simp only [go_sem] <;> rfl), (by rw [← hT]; simp only [go_sem] <;> rfl), (by rw [← hT]; simp only [go_sem] <;> rfl), (by rw [← hT]; simp only [go_sem] <;> rfl), (by rw [← hT]; simp only [go_sem] <;> rfl)⟩
  rw [k1]
  rcases k2 with ⟨rfl, k2⟩ | ⟨rfl, k2, k3⟩
  · rw [k2]
    simp (disch := first | assumption | omega | (simp only [go_sem] <;> omega) | fail) only [go_sem]
  · rw [k2]
    simp (disch := first | assumption | omega | (simp only [go_sem] <;> omega) | fail) only [go_sem, k3]
def frozAt (f : OutL) (s : SubL) : Bool := inB f.no 1 s.no && (decide (0 ≤ f.from_) && decide (f.from_ < f.upto) && decide (f.upto ≤ s.cursor)) && (inB f.cut 0 1099511627776 && inB f.next 0 1099511627776) && inB f.tried 0 20 && inB f.out 0 3 && mailB f.mail
def frozMay (f : OutL) (subs : List SubL) : Bool := inB f.sub 0 ((subs.length : Int) - 1) && (match subs[f.sub.toNat]? with
  | some s => frozAt f s
  | none => false)
theorem Ffrozen {O O' : Nat → Prop} {H : Heap} {f : OutL} {subs : List SubL} {fc : List Value} {v : Value} (hf : OutE O' H f fc) (hx : ListAt SubE 9 O H subs v) (hm : f.mail.length ≤ 4000000000) (hn : subs.length ≤ 1099511627776) (p : Nat) : F 40 #[.agg fc.toArray, v] p H = some (.returned (.bool (frozMay f subs)), H) := by
  obtain ⟨qm, rfl, hqm, _⟩ := hf
  obtain ⟨q, cs, rfl, hcs, hcl, hqs, hLC⟩ := hx
  have hok : okq q subs.length := hcs.okq hcl (by omega)
  rw [F, F_quiet (f := 40) (X := X) (cl := cl) rfl rfl rfl Tryz.func40 rfl, Tryz.results40]
  simp only [OutL.cells]
  unfold frozMay
  generalize hR4 : Code.region 4 _ _ = R4
  generalize hR5 : Code.region 5 _ _ = R5
  cases b0 : inB f.sub 0 ((subs.length : Int) - 1) with
  | false => simp (disch := first | assumption | omega | (simp only [go_sem] <;> omega) | fail) only [go_sem, bin_sub, b0]
  | true =>
    have hb : 0 ≤ f.sub ∧ f.sub ≤ (subs.length : Int) - 1 := by simpa [inB] using b0
    obtain ⟨j, hj⟩ := Int.eq_ofNat_of_zero_le hb.1
    have hjl : j < subs.length := by omega
    have hyi : subs[j]? = some subs[j] := List.getElem?_eq_getElem hjl
    have hjt : f.sub.toNat = j := by omega
    rw [hjt, hyi]
    simp only [Bool.true_and]
    have hE : SubE O H subs[j] ((cs.drop (j * 9)).take 9) := LC.nth SubE.len hLC hyi
    have hq0 : q ≠ none := fun e => by have := hok e; omega
    have hcs2 : ∀ a : Blk, CAt (H ++ [a]) q cs := fun a => hcs.push [a]
    have hld := fun a => ld_ptqA (P := Tryz.prog) (T := 29) (o := j * 9) sz29 ag29 (hcs2 a) (by rw [hcl]; have := Nat.mul_le_mul_right 9 hjl; rw [Nat.succ_mul] at this; omega) hq0
    obtain ⟨qf, hc, hcf, hqf⟩ := hE
    rw [hc] at hld
    simp only [SubL.cells] at hld
    generalize subs[j] = s at *
    have hi2 : (f.sub : Int) < subs.length := by omega
    have hmay := fun (a b : Blk) => FdotMay (p := H.length) ((hqm.push [a]).push [b]) hm
    generalize hF : (⟨0, 44, #[i64v f.sub, i64v f.no, i64v f.from_, i64v f.upto, slv qm f.mail.length 1, i64v f.cut, i64v f.tried, i64v f.next, i64v f.out], 0, false, []⟩ : Blk) = bF
    generalize hS : (⟨0, 29, #[str s.addr, slv qf s.feeds.length 1, str s.zone, str s.cron, i64v s.start, i64v s.cursor, i64v s.no, i64v s.clock, .bool s.off], 9, false, []⟩ : Blk) = bS
    have r4 : ∀ t : Nat → Value, t 2 = .pointer (some ⟨H.length, 0, some 9⟩) → t 5 = .pointer (some ⟨H.length + 1, 0, some 9⟩) → ∃ t', limR Tryz.prog cl X R4 H.length ⟨t, [], H ++ [bF] ++ [bS]⟩ = some (.normal, ⟨t', [], H ++ [bF] ++ [bS]⟩) ∧ t' 2 = .pointer (some ⟨H.length, 0, some 9⟩) ∧ t' 5 = .pointer (some ⟨H.length + 1, 0, some 9⟩) ∧ t' 6 = .bool (decide (0 ≤ f.from_) && decide (f.from_ < f.upto) && decide (f.upto ≤ s.cursor)) := by
      intro t h2 h5
      rw [← hR4, ← hF, ← hS]
      by_cases c1 : 0 ≤ f.from_
      · by_cases c2 : f.from_ < f.upto
        · by_cases c3 : f.upto ≤ s.cursor
          · simp (disch := first | assumption | omega | (simp only [go_sem] <;> omega) | fail) only [go_sem, h2, h5, c1, c2, c3]
            refine ⟨_, rfl, ?_⟩
            simp only [go_sem, h2, h5]
          · simp (disch := first | assumption | omega | (simp only [go_sem] <;> omega) | fail) only [go_sem, h2, h5, c1, c2, c3]
            refine ⟨_, rfl, ?_⟩
            simp only [go_sem, h2, h5]
        · simp (disch := first | assumption | omega | (simp only [go_sem] <;> omega) | fail) only [go_sem, h2, h5, c1, c2]
          refine ⟨_, rfl, ?_⟩
          simp only [go_sem, h2, h5]
      · simp (disch := first | assumption | omega | (simp only [go_sem] <;> omega) | fail) only [go_sem, h2, h5, c1]
        refine ⟨_, rfl, ?_⟩
        simp only [go_sem, h2, h5]
    have r5 : ∀ (t : Nat → Value) (sp : Bool), t 2 = .pointer (some ⟨H.length, 0, some 9⟩) → t 5 = .pointer (some ⟨H.length + 1, 0, some 9⟩) → t 6 = .bool sp → ∃ t', limR Tryz.prog cl X R5 H.length ⟨t, [], H ++ [bF] ++ [bS]⟩ = some (.normal, ⟨t', [], H ++ [bF] ++ [bS]⟩) ∧ t' 2 = .pointer (some ⟨H.length, 0, some 9⟩) ∧ t' 5 = .pointer (some ⟨H.length + 1, 0, some 9⟩) ∧ t' 6 = .bool sp ∧ t' 7 = .bool (inB f.cut 0 1099511627776 && inB f.next 0 1099511627776) := by
      intro t sp h2 h5 h6
      rw [← hR5, ← hF, ← hS]
      cases c1 : inB f.cut 0 1099511627776 with
      | false =>
        simp (disch := first | assumption | omega | (simp only [go_sem] <;> omega) | fail) only [go_sem, h2, h5, c1]
        refine ⟨_, rfl, ?_⟩
        simp only [go_sem, h2, h5, h6]
      | true =>
        simp (disch := first | assumption | omega | (simp only [go_sem] <;> omega) | fail) only [go_sem, h2, h5, c1]
        refine ⟨_, rfl, ?_⟩
        simp only [go_sem, h2, h5, h6]
    subst hF
    subst hS
    simp (disch := first | assumption | omega | (simp only [go_sem] <;> omega) | fail) only [go_sem, bin_sub, b0, hb.1, hi2, hjt, hld]
    generalize hT : upd _ 5 _ = T
    obtain ⟨t1, q1, q2, q5, q6⟩ := r4 T (by rw [← hT]; simp only [go_sem] <;> rfl) (by rw [← hT]; simp only [go_sem] <;> rfl)
    rw [q1]
    simp (disch := first | assumption | omega | (simp only [go_sem] <;> omega) | fail) only [go_sem]
    obtain ⟨t2, w1, w2, w5, w6, w7⟩ := r5 t1 _ q2 q5 q6
    rw [w1]
    unfold frozAt
    clear r4 r5 hR4 hR5
    generalize (decide (0 ≤ f.from_) && decide (f.from_ < f.upto) && decide (f.upto ≤ s.cursor)) = sp at *
    generalize (inB f.cut 0 1099511627776 && inB f.next 0 1099511627776) = tm at *
    cases b1 : inB f.no 1 s.no with
    | false => simp (disch := first | assumption | omega | (simp only [go_sem] <;> omega) | fail) only [go_sem, w2, w5, w6, w7, b1]
    | true =>
      cases sp with
      | false => simp (disch := first | assumption | omega | (simp only [go_sem] <;> omega) | fail) only [go_sem, w2, w5, w6, w7, b1]
      | true =>
        cases tm with
        | false => simp (disch := first | assumption | omega | (simp only [go_sem] <;> omega) | fail) only [go_sem, w2, w5, w6, w7, b1]
        | true =>
          cases b2 : inB f.tried 0 20 with
          | false => simp (disch := first | assumption | omega | (simp only [go_sem] <;> omega) | fail) only [go_sem, w2, w5, w6, w7, b1, b2]
          | true =>
            cases b3 : inB f.out 0 3 with
            | false => simp (disch := first | assumption | omega | (simp only [go_sem] <;> omega) | fail) only [go_sem, w2, w5, w6, w7, b1, b2, b3]
            | true => simp (disch := first | assumption | omega | (simp only [go_sem] <;> omega) | fail) only [go_sem, w2, w5, w6, w7, b1, b2, b3, hmay]
def outGo (subs : List SubL) : List OutL → List (Int × Int) → Bool
  | [], _ => true
  | f :: r, ks => frozMay f subs && decide ((f.sub, f.no) ∉ ks) && outGo subs r (ks ++ [(f.sub, f.no)])
def stateMay (s : StateL) : Bool := inB s.seq 0 1073741824 && inB s.now 0 253402300799 && decide (s.subs.length ≤ 8) && itemsMay s.items s.seq && s.subs.all (fun x => subMay x s.seq) && outGo s.subs s.out []
structure StateSz (s : StateL) : Prop where
  a : ∀ x ∈ s.subs, SubSz x
  b : ∀ x ∈ s.items, ItemSz x
  c : ∀ x ∈ s.out, x.mail.length ≤ 4000000000
  na : s.subs.length ≤ 1099511627776
  nb : s.items.length ≤ 1099511627776
  nc : s.out.length ≤ 1099511627776
theorem bldPair (a b : Int) : bldV Tryz.prog 82 #[(0, .int .i64 a), (1, .int .i64 b)] = some (.agg #[.int .i64 a, .int .i64 b]) := by kernel_rfl
theorem CAt.lt {H : Heap} {q : Q} {cs : List Value} (h : CAt H q cs) : ∀ B, inq q B → B < H.length := by
  rintro B ⟨o, m, rfl⟩
  simp only [CAt] at h
  obtain ⟨B', hB', _⟩ := rd_iff.1 h
  exact (List.getElem?_eq_some_iff.1 hB').1
theorem Fstmay {O : Nat → Prop} {H : Heap} {s : StateL} {v : Value} (hs : StateAt O H s v) (hO : ∀ B, O B → B < H.length) (hz : StateSz s) (p : Nat) : F 15 #[v] p H = some (.returned (.bool (stateMay s)), H) := by
  obtain ⟨v1, v2, v3, rfl, ⟨q1, c1, rfl, hc1, hl1, hq1, hL1⟩, ⟨q2, c2, rfl, hc2, hl2, hq2, hL2⟩, ⟨q3, c3, rfl, hc3, hl3, hq3, hL3⟩⟩ := hs
  have hok1 : okq q1 s.subs.length := hc1.okq hl1 (by omega)
  have hok3 : okq q3 s.out.length := hc3.okq hl3 (by omega)
  have hna := hz.na
  have hnc := hz.nc
  rw [F, F_quiet (f := 15) (X := X) (cl := cl) rfl rfl rfl Tryz.func15 rfl, Tryz.results15]
  have hit := fun (a : Blk) (p : Nat) => Fitems (O := O) (H := H ++ [a]) (v := slv q2 s.items.length 7) ⟨q2, c2, rfl, hc2.push [a], hl2, hq2, LC.mono (fun _ _ h => h) hL2⟩ hz.b hz.nb s.seq p
  unfold stateMay
  cases b1 : inB s.seq 0 1073741824 with
  | false => simp (disch := first | assumption | omega | (simp only [go_sem] <;> omega) | fail) only [go_sem, b1]
  | true =>
    cases b2 : inB s.now 0 253402300799 with
    | false => simp (disch := first | assumption | omega | (simp only [go_sem] <;> omega) | fail) only [go_sem, b1, b2]
    | true =>
      by_cases b3 : (8 : Int) < s.subs.length
      · rw [decide_eq_false (p := s.subs.length ≤ 8) (by omega)]
        simp (disch := first | assumption | omega | (simp only [go_sem] <;> omega) | fail) only [go_sem, b1, b2, b3]
      · rw [decide_eq_true (p := s.subs.length ≤ 8) (by omega)]
        cases b4 : itemsMay s.items s.seq with
        | false => simp (disch := first | assumption | omega | (simp only [go_sem] <;> omega) | fail) only [go_sem, b1, b2, b3, hit, b4]
        | true =>
          simp (disch := first | assumption | omega | (simp only [go_sem] <;> omega) | fail) only [go_sem, b1, b2, b3, hit, b4]
          generalize hL : Code.loop (.seq (.region 4 _ _) _) = L
          generalize hL2 : Code.loop (.seq (.region 11 _ _) _) = L2
          generalize hT : upd _ 35 _ = T
          generalize hS : (⟨0, 26, #[slv q1 s.subs.length 9, slv q2 s.items.length 7, i64v s.seq, slv q3 s.out.length 9, i64v s.now], 0, false, []⟩ : Blk) = bS
          obtain ⟨e, t1, G1, k1, k2⟩ := loop_up (P := Tryz.prog) (cl := cl) (X := X) (L := L) (p := H.length) (t := T) (H := H ++ [bS]) s.subs.length
            (fun i t G => Pr H.length H G ∧ H.length + 1 ≤ G.length ∧ G[H.length]? = some bS ∧ s.subs.all (fun x => subMay x s.seq) = (s.subs.drop i).all (fun x => subMay x s.seq) ∧ t 1 = .pointer (some ⟨H.length, 0, some 5⟩) ∧ t 33 = slv q1 s.subs.length 9 ∧ t 34 = i64v s.subs.length ∧ t 35 = i64v i)
            (fun e t G => Pr H.length H G ∧ H.length + 1 ≤ G.length ∧ G[H.length]? = some bS ∧ ((e = .exit 0 ∧ s.subs.all (fun x => subMay x s.seq) = true ∧ t 1 = .pointer (some ⟨H.length, 0, some 5⟩)) ∨ (e = .ret ∧ s.subs.all (fun x => subMay x s.seq) = false ∧ t 2 = .bool false)))
            (by
              rintro i t G hi ⟨hPr, hG, hN, hgo, h1, h33, h34, h35⟩
              have hlt : (i : Int) < s.subs.length := by omega
              have hyi : s.subs[i]? = some s.subs[i] := List.getElem?_eq_getElem hi
              have hzi := hz.a s.subs[i] (List.getElem_mem hi)
              have hk : ∀ B, O B → G[B]? = H[B]? := fun B hB => hPr.2 B (hO B hB)
              have hs1 : CAt G q1 c1 := hc1.keep fun B hB => hk B (hq1 B hB)
              have hE : SubE O G s.subs[i] ((c1.drop (i * 9)).take 9) := SubE.move (fun B hB => ⟨hB, hk B hB⟩) (LC.nth SubE.len hL1 hyi)
              have hq0 : q1 ≠ none := fun e => by have := hok1 e; omega
              have hld := ld_ptqA (P := Tryz.prog) (T := 29) (o := i * 9) sz29 ag29 hs1 (by rw [hl1]; have := Nat.mul_le_mul_right 9 hi; rw [Nat.succ_mul] at this; omega) hq0
              rw [drop_cons hi, List.all_cons] at hgo
              obtain ⟨qf, hc, hcf, hqf⟩ := hE
              have hsub := fun (a : Blk) (p : Nat) => Fstsub (O := O) (H := G ++ [a]) (x := s.subs[i]) ⟨qf, rfl, hcf.push [a], hqf⟩ hzi s.seq p
              rw [hc] at hld
              simp only [SubL.cells] at hld hsub
              generalize s.subs[i] = y at *
              subst hS
              rw [← hL, E_loop, hL]
              cases b5 : subMay y s.seq with
              | false =>
                right
                rw [b5] at hgo
                simp (disch := first | assumption | omega | (simp only [go_sem] <;> omega) | fail) only [go_sem, h1, h33, h34, h35, hlt, hld, hN, hsub, b5]
                refine ⟨_, _, _, rfl, ⟨by simp only [List.length_append]; omega, fun B hB => by rw [List.getElem?_append_left (by omega)]; exact hPr.2 B hB⟩, by simp only [List.length_append]; omega, by rw [List.getElem?_append_left (by omega)]; exact hN, .inr ⟨rfl, by rw [hgo]; rfl, ?_⟩⟩
                simp only [go_sem]
              | true =>
                left
                rw [b5] at hgo
                simp (disch := first | assumption | omega | (simp only [go_sem] <;> omega) | fail) only [go_sem, h1, h33, h34, h35, hlt, hld, hN, hsub, b5]
                refine ⟨_, _, rfl, ⟨by simp only [List.length_append]; omega, fun B hB => by rw [List.getElem?_append_left (by omega)]; exact hPr.2 B hB⟩, by simp only [List.length_append]; omega, by rw [List.getElem?_append_left (by omega)]; exact hN, by rw [hgo]; rfl, ?_⟩
                simp only [go_sem, h1, h33, h34] <;> rfl)
            (by
              rintro t G ⟨hPr, hG, hN, hgo, h1, h33, h34, h35⟩
              rw [← hL, E_loop, hL]
              have hlt : ¬ (s.subs.length : Int) < s.subs.length := by omega
              rw [List.drop_length] at hgo
              simp (disch := first | assumption | omega | (simp only [go_sem] <;> omega) | fail) only [go_sem, h1, h33, h34, h35, hlt]
              refine ⟨_, _, _, rfl, hPr, hG, hN, .inl ⟨rfl, hgo, ?_⟩⟩
              simp only [go_sem, h1])
            ⟨⟨by simp, fun B hB => List.getElem?_append_left hB⟩, by simp, by simp, rfl, (by rw [← hT]; simp only [go_sem] <;> rfl), (by rw [← hT]; simp only [go_sem] <;> rfl), (by rw [← hT]; simp only [go_sem] <;> rfl), (by rw [← hT]; simp only [go_sem] <;> rfl)⟩
          rw [k1]
          obtain ⟨hPr1, hG1, hN1, k2⟩ := k2
          rcases k2 with ⟨rfl, k2, h1⟩ | ⟨rfl, k2, k3⟩
          · rw [k2]
            have mkM := fun (t : Nat → Value) (ds : List Deferred) (H0 : Heap) (p d : Nat) => ev_makeMap (P := Tryz.prog) (cl := cl) (fn := limF Tryz.prog cl X) (dq := false) (p := p) (d := d) (t := t) (ds := ds) (H := H0) 80 _ _ Tryz.underlying80
            subst hS
            have hN1' : (G1 ++ [(⟨1, 80, #[], 0, false, []⟩ : Blk)])[H.length]? = some ⟨0, 26, #[slv q1 s.subs.length 9, slv q2 s.items.length 7, i64v s.seq, slv q3 s.out.length 9, i64v s.now], 0, false, []⟩ := by rw [List.getElem?_append_left (by omega)]; exact hN1
            simp (disch := first | assumption | omega | (simp only [go_sem] <;> omega) | fail) only [go_sem, mkM, h1, hN1']
            generalize hT : upd _ 49 _ = T
            generalize hS : (⟨0, 26, #[slv q1 s.subs.length 9, slv q2 s.items.length 7, i64v s.seq, slv q3 s.out.length 9, i64v s.now], 0, false, []⟩ : Blk) = bS at *
            obtain ⟨e, t2, G2, m1, m2⟩ := loop_up (P := Tryz.prog) (cl := cl) (X := X) (L := L2) (p := H.length) (t := T) (H := G1 ++ [⟨1, 80, #[], 0, false, []⟩]) s.out.length
              (fun i t G => Pr H.length H G ∧ G1.length + 1 ≤ G.length ∧ G[H.length]? = some bS ∧ (∃ ks, G[G1.length]? = some ⟨1, 80, #[], 0, false, ks.map fun x => (pairV x, .int .i64 1)⟩ ∧ outGo s.subs s.out [] = outGo s.subs (s.out.drop i) ks) ∧
                t 1 = .pointer (some ⟨H.length, 0, some 5⟩) ∧ t 5 = .map (some G1.length) ∧ t 47 = slv q3 s.out.length 9 ∧ t 48 = i64v s.out.length ∧ t 49 = i64v i)
              (fun e t G => (e = .exit 2 ∧ outGo s.subs s.out [] = true) ∨ (e = .ret ∧ outGo s.subs s.out [] = false ∧ t 2 = .bool false))
              (by
                rintro i t G hi ⟨hPr, hG, hN, ⟨ks, hM, hgo⟩, h1, h5, h47, h48, h49⟩
                have hlt : (i : Int) < s.out.length := by omega
                have hyi : s.out[i]? = some s.out[i] := List.getElem?_eq_getElem hi
                have hzi := hz.c s.out[i] (List.getElem_mem hi)
                have hk : ∀ B, O B → G[B]? = H[B]? := fun B hB => hPr.2 B (hO B hB)
                have hs3 : CAt G q3 c3 := hc3.keep fun B hB => hk B (hq3 B hB)
                have hE : OutE O G s.out[i] ((c3.drop (i * 9)).take 9) := OutE.move (fun B hB => ⟨hB, hk B hB⟩) (LC.nth OutE.len hL3 hyi)
                have hq0 : q3 ≠ none := fun e => by have := hok3 e; omega
                have hld := ld_ptqA (P := Tryz.prog) (T := 44) (o := i * 9) sz44 ag44 hs3 (by rw [hl3]; have := Nat.mul_le_mul_right 9 hi; rw [Nat.succ_mul] at this; omega) hq0
                rw [drop_cons hi, outGo] at hgo
                obtain ⟨qm, hc, hcm, hqm⟩ := hE
                have hfz := fun (a : Blk) (p : Nat) => Ffrozen (O := O) (O' := O) (H := G ++ [a]) (f := s.out[i]) (subs := s.subs) (v := slv q1 s.subs.length 9) ⟨qm, rfl, hcm.push [a], hqm⟩
                  ⟨q1, c1, rfl, (hc1.keep fun B hB => hk B (hq1 B hB)).push [a], hl1, hq1, LC.mono (fun _ _ h => SubE.move (fun B hB => ⟨hB, by rw [List.getElem?_append_left (by have := hO B hB; have := hPr.1; omega)]; exact hk B hB⟩) h) hL1⟩ hzi hna p
                rw [hc] at hld
                simp only [OutL.cells] at hld hfz
                have hlk := fun (a : Blk) => look_keys keysPair (H := G ++ [a]) (r := G1.length) (s.out[i].sub, s.out[i].no) (by rw [List.getElem?_append_left (by omega)]; exact hM)
                have hup := fun (a : Blk) (hk : (s.out[i].sub, s.out[i].no) ∉ ks) => up_keys keysPair (p := H.length) (H := G ++ [a]) (r := G1.length) (one := .int .i64 1) (s.out[i].sub, s.out[i].no) hk (by omega) (by rw [List.getElem?_append_left (by omega)]; exact hM)
                simp only [pairV] at hlk hup
                have hb82 : ∀ a b : Int, bldV Tryz.prog 82 #[(0, .int .i64 a), (1, .int .i64 b)] = some (.agg #[.int .i64 a, .int .i64 b]) := fun a b => bldPair a b
                generalize s.out[i] = y at *
                subst hS
                have hN2 : ∀ a : Blk, (G ++ [a])[H.length]? = some ⟨0, 26, #[slv q1 s.subs.length 9, slv q2 s.items.length 7, i64v s.seq, slv q3 s.out.length 9, i64v s.now], 0, false, []⟩ := fun a => by rw [List.getElem?_append_left (by omega)]; exact hN
                rw [← hL2, E_loop, hL2]
                cases b5 : frozMay y s.subs with
                | false =>
                  right
                  rw [b5] at hgo
                  simp (disch := first | assumption | omega | (simp only [go_sem] <;> omega) | fail) only [go_sem, h1, h5, h47, h48, h49, hlt, hld, hN2, hfz, b5]
                  refine ⟨_, _, _, rfl, .inr ⟨rfl, by rw [hgo]; rfl, ?_⟩⟩
                  simp only [go_sem]
                | true =>
                  rw [b5] at hgo
                  by_cases hk : (y.sub, y.no) ∈ ks
                  · right
                    rw [decide_eq_false (fun h => h hk)] at hgo
                    simp only [hk, if_true] at hlk
                    simp (disch := first | assumption | omega | (simp only [go_sem] <;> omega) | fail) only [go_sem, h1, h5, h47, h48, h49, hlt, hld, hN2, hfz, b5, hb82, ev_lookup, hlk]
                    refine ⟨_, _, _, rfl, .inr ⟨rfl, by rw [hgo]; rfl, ?_⟩⟩
                    simp only [go_sem]
                  · left
                    rw [decide_eq_true hk] at hgo
                    simp only [hk, if_false] at hlk
                    have hup' := fun a => hup a hk
                    simp (disch := first | assumption | omega | (simp only [go_sem] <;> omega) | fail) only [go_sem, h1, h5, h47, h48, h49, hlt, hld, hN2, hfz, b5, hb82, ev_lookup, ev_mapUpdate, hlk, hup']
                    refine ⟨_, _, rfl, ?_, ?_, ?_, ⟨ks ++ [(y.sub, y.no)], ?_, ?_⟩, ?_⟩
                    · refine ⟨by simp only [List.length_append, List.length_set]; omega, fun B hB => ?_⟩
                      rw [List.getElem?_append_left (by rw [List.length_set]; omega), List.getElem?_set_ne (by omega)]
                      exact hPr.2 B hB
                    · simp only [List.length_append, List.length_set]; omega
                    · rw [List.getElem?_append_left (by rw [List.length_set]; omega), List.getElem?_set_ne (by omega)]; exact hN
                    · rw [List.getElem?_append_left (by rw [List.length_set]; omega), List.getElem?_set_self (by omega)]
                      rfl
                    · rw [hgo]; rfl
                    · simp only [go_sem, h1, h5, h47, h48] <;> rfl)
              (by
                rintro t G ⟨hPr, hG, hN, ⟨ks, hM, hgo⟩, h1, h5, h47, h48, h49⟩
                rw [← hL2, E_loop, hL2]
                have hlt : ¬ (s.out.length : Int) < s.out.length := by omega
                rw [List.drop_length, outGo] at hgo
                simp (disch := first | assumption | omega | (simp only [go_sem] <;> omega) | fail) only [go_sem, h1, h5, h47, h48, h49, hlt]
                exact ⟨_, _, _, rfl, .inl ⟨rfl, hgo⟩⟩)
              ⟨⟨by have := hPr1.1; simp only [List.length_append]; omega, fun B hB => by rw [List.getElem?_append_left (by have := hPr1.1; omega)]; exact hPr1.2 B hB⟩, by simp, hN1', ⟨[], by simp, rfl⟩, (by rw [← hT]; simp only [go_sem, h1]), (by rw [← hT]; simp only [go_sem] <;> rfl), (by rw [← hT]; simp only [go_sem] <;> rfl), (by rw [← hT]; simp only [go_sem] <;> rfl), (by rw [← hT]; simp only [go_sem] <;> rfl)⟩
            rw [m1]
            rcases m2 with ⟨rfl, m2⟩ | ⟨rfl, m2, m3⟩
            · rw [m2]
              simp (disch := first | assumption | omega | (simp only [go_sem] <;> omega) | fail) only [go_sem]
            · rw [m2]
              simp (disch := first | assumption | omega | (simp only [go_sem] <;> omega) | fail) only [go_sem, m3]
          · rw [k2]
            simp (disch := first | assumption | omega | (simp only [go_sem] <;> omega) | fail) only [go_sem, k3]
theorem StateAt.push {O : Nat → Prop} {H : Heap} {s : StateL} {v : Value} (h : StateAt O H s v) (hO : ∀ B, O B → B < H.length) (Z : Heap) : StateAt O (H ++ Z) s v :=
  h.move fun B hB => ⟨hB, List.getElem?_append_left (hO B hB)⟩
theorem StateAt.cells {O : Nat → Prop} {H : Heap} {s : StateL} {v : Value} (h : StateAt O H s v) : ∃ a b c, v = .agg #[a, b, i64v s.seq, c, i64v s.now] ∧ oneC a = true ∧ oneC b = true ∧ oneC c = true := by
  obtain ⟨v1, v2, v3, rfl, ⟨q1, c1, rfl, _⟩, ⟨q2, c2, rfl, _⟩, ⟨q3, c3, rfl, _⟩⟩ := h
  exact ⟨_, _, _, rfl, oneC_slv _ _ _, oneC_slv _ _ _, oneC_slv _ _ _⟩
theorem Fstsame {O : Nat → Prop} {H : Heap} {s t : StateL} {v w : Value} (hs : StateAt O H s v) (ht : StateAt O H t w) (hO : ∀ B, O B → B < H.length) (h1 : (putL s).length ≤ 1099511627776) (h2 : (putL t).length ≤ 1099511627776) (p : Nat) : F 20 #[v, w] p H = some (.returned (.bool (decide (putL s = putL t))), H) := by
  obtain ⟨a1, a2, a3, ev, o1, o2, o3⟩ := hs.cells
  obtain ⟨b1, b2, b3, ew, r1, r2, r3⟩ := ht.cells
  have ho1 : [a1, a2, i64v s.seq, a3, i64v s.now].all oneC = true := by simp [o1, o2, o3, oneC_int]
  have ho2 : [b1, b2, i64v t.seq, b3, i64v t.now].all oneC = true := by simp [r1, r2, r3, oneC_int]
  rw [F, F_quiet (f := 20) (X := X) (cl := cl) rfl rfl rfl Tryz.func20 rfl, Tryz.results20]
  subst ev
  subst ew
  obtain ⟨A, n, H1, e1, c1, d1, d2, d3, d4⟩ := FPut (p := H.length) (H := H ++ [⟨0, 26, #[a1, a2, i64v s.seq, a3, i64v s.now], 0, false, []⟩] ++ [⟨0, 26, #[b1, b2, i64v t.seq, b3, i64v t.now], 0, false, []⟩]) (hs := (hs.push hO _).push (fun B hB => by have := hO B hB; simp; omega) _) (fun B hB => by have := hO B hB; simp; omega) h1
  simp only [List.length_append, List.length_cons, List.length_nil] at d1 d3 d4
  have hk2 : H1[H.length + 1]? = some ⟨0, 26, #[b1, b2, i64v t.seq, b3, i64v t.now], 0, false, []⟩ := by rw [d4 _ (by omega)]; exact at_end (by simp)
  obtain ⟨A2, n2, H2, e2, c2, f1, f2, f3, f4⟩ := FPut (p := H.length) (H := H1) (O := O) (ht.move fun B hB => ⟨hB, by have := hO B hB; rw [d4 B (by omega), List.getElem?_append_left (by simp; omega), List.getElem?_append_left this]⟩) (fun B hB => by have := hO B hB; omega) h2
  have c1' : CAt H2 (some (A, 0, n)) (u8s (putL s)) := c1.keep fun B hB => f4 B (by obtain ⟨_, _, hB⟩ := hB; cases hB; exact d2)
  have hE := FbEqual (p := H.length) (putL s).length (putL t).length rfl rfl c1' c2
  simp only [slv] at hE
  simp (disch := first | assumption | omega | (simp only [go_sem] <;> omega) | fail) only [go_sem, ho1, ho2, e1, hk2, e2, hE]
def someS : StateL := ⟨[⟨[97, 64, 98], [0, 2], [85, 84, 67, 48], [48, 32, 54, 32, 42, 32, 42, 32, 42], 0, 1, 1, 5, false⟩], [⟨0, 0, [105], [], [], [], 0⟩], 1, [⟨0, 1, 0, 1, [120, 13, 10], 5, 0, 5, 0⟩], 5⟩
theorem some_may : stateMay someS = true := by decide +kernel
theorem some_sub : subMay ⟨[97, 64, 98], [0, 2], [85, 84, 67, 48], [48, 32, 54, 32, 42, 32, 42, 32, 42], 0, 1, 1, 5, false⟩ 1 = true := by decide +kernel
theorem cat_lit {H Z : Heap} {k fl n : Nat} {e : TypeId} {cs : List Value} (h : Z[k]? = some ⟨0, e, cs.toArray, fl, false, []⟩) (hfl : fl ≤ cs.length) (hn : n = cs.length) : CAt (H ++ Z) (some (H.length + k, 0, n)) cs := by
  subst hn
  simp only [CAt]
  refine rd_iff.2 ⟨_, by rw [List.getElem?_append_right (by omega), Nat.add_sub_cancel_left]; exact h, ⟨rfl, hfl, by omega, by simp⟩, by simp⟩
theorem Fsome (p : Nat) (H : Heap) : ∃ v Z, F 21 #[] p H = some (.returned v, H ++ Z) ∧ StateAt (fun B => H.length ≤ B ∧ B < (H ++ Z).length) (H ++ Z) someS v := by
  rw [F, F_quiet (f := 21) (X := X) (cl := cl) rfl rfl rfl Tryz.func21 rfl, Tryz.results21]
  have mk : ∀ (G : Heap) k p b, p ≤ k → k = G.length → cvS Tryz.prog p 33 33 (.slice (some ⟨k, 0, some 3⟩) 3 1) (G ++ [⟨0, 5, b, 0, false, []⟩]) = some (.slice (some ⟨k, 0, some 3⟩) 3 1, G ++ [⟨0, 5, b, 0, false, []⟩]) := by
    rintro G _ p b hp rfl
    exact mark_new hp rfl rfl (by decide)
  simp (disch := first | assumption | omega | (simp only [go_sem] <;> omega) | fail) only [go_sem, mk]
  rw [if_neg (by simp [flat])]
  simp only [List.append_assoc, List.cons_append, List.nil_append, Nat.add_assoc, Nat.reduceAdd]
  refine ⟨_, _, rfl, _, _, _, rfl, ⟨some (H.length + 5, 0, 9), _, rfl, cat_lit (k := 5) (cs := [_, _, _, _, _, _, _, _, _]) rfl (by simp) rfl, rfl, ?_, ?_⟩, ⟨some (H.length + 6, 0, 7), _, rfl, cat_lit (k := 6) (cs := [_, _, _, _, _, _, _]) rfl (by simp) rfl, rfl, ?_, ?_⟩, ⟨some (H.length + 7, 0, 9), _, rfl, cat_lit (k := 7) (cs := [_, _, _, _, _, _, _, _, _]) rfl (by simp) rfl, rfl, ?_, ?_⟩⟩
  · rintro B ⟨_, _, h⟩; cases h; simp
  · exact ⟨_, [], rfl, ⟨some (H.length + 1, 0, 2), rfl, cat_lit (k := 1) (cs := [_, _]) rfl (by simp) rfl, by rintro B ⟨_, _, h⟩; cases h; simp⟩, rfl⟩
  · rintro B ⟨_, _, h⟩; cases h; simp
  · exact ⟨_, [], rfl, rfl, rfl⟩
  · rintro B ⟨_, _, h⟩; cases h; simp
  · exact ⟨_, [], rfl, ⟨some (H.length + 3, 0, 3), rfl, cat_lit (k := 3) (cs := [_, _, _]) rfl (by simp) rfl, by rintro B ⟨_, _, h⟩; cases h; simp⟩, rfl⟩
def zeroL : StateL := ⟨[], [], 0, [], 0⟩
theorem zero_at (O : Nat → Prop) (H : Heap) : StateAt O H zeroL (.agg #[.slice none 0 0, .slice none 0 0, i64v 0, .slice none 0 0, i64v 0]) :=
  ⟨_, _, _, rfl, ⟨none, [], rfl, rfl, rfl, (by rintro B ⟨_, _, h⟩; cases h), rfl⟩, ⟨none, [], rfl, rfl, rfl, (by rintro B ⟨_, _, h⟩; cases h), rfl⟩, ⟨none, [], rfl, rfl, rfl, (by rintro B ⟨_, _, h⟩; cases h), rfl⟩⟩
instance decLen {α : Type} (l : List α) : Decidable (len64 l) := inferInstanceAs (Decidable (l.length ≤ 9223372036854775807))
theorem some_ok : StateOk someS := ⟨⟨fun x hx => by
    simp only [someS, List.mem_singleton] at hx
    subst hx
    exact ⟨by decide, ⟨fun x hx => by simp at hx; rcases hx with rfl | rfl <;> exact ⟨by decide, by decide⟩, by decide⟩, by decide, by decide, ⟨by decide, by decide⟩, ⟨by decide, by decide⟩, ⟨by decide, by decide⟩, ⟨by decide, by decide⟩⟩, by decide⟩,
  ⟨fun x hx => by
    simp only [someS, List.mem_singleton] at hx
    subst hx
    exact ⟨⟨by decide, by decide⟩, ⟨by decide, by decide⟩, by decide, by decide, by decide, by decide, ⟨by decide, by decide⟩⟩, by decide⟩, ⟨by decide, by decide⟩,
  ⟨fun x hx => by
    simp only [someS, List.mem_singleton] at hx
    subst hx
    exact ⟨⟨by decide, by decide⟩, ⟨by decide, by decide⟩, ⟨by decide, by decide⟩, ⟨by decide, by decide⟩, by decide, ⟨by decide, by decide⟩, ⟨by decide, by decide⟩, ⟨by decide, by decide⟩, ⟨by decide, by decide⟩⟩, by decide⟩, ⟨by decide, by decide⟩⟩
theorem some_sz : StateSz someS := ⟨fun x hx => by
    simp only [someS, List.mem_singleton] at hx
    subst hx
    exact ⟨by decide, by decide, by decide, by decide⟩, fun x hx => by
    simp only [someS, List.mem_singleton] at hx
    subst hx
    exact ⟨by decide, by decide, by decide⟩, fun x hx => by
    simp only [someS, List.mem_singleton] at hx
    subst hx
    decide, by decide, by decide, by decide⟩
theorem some_len : (putL someS).length ≤ 100000 ∧ 40 < (putL someS).length := by decide +kernel
theorem zero_len : (putL zeroL).length = 40 := by decide +kernel
theorem Fawake (p : Nat) (H : Heap) : F 9 #[] p H = some (.returned (.bool true), H) := by
  rw [F, F_pure (f := 9) (X := X) (cl := cl) rfl rfl rfl Tryz.func9 rfl (by simp only [go_sem]), Tryz.results9]
  have hsl := some_len
  obtain ⟨v0, Z0, f0, s0⟩ := Fsome 0 []
  simp only [List.nil_append] at f0 s0
  obtain ⟨A, n, H1, e1, c1, d1, d2, d3, d4⟩ := FPut (p := 0) (hs := s0) (fun B hB => hB.2) (by omega)
  obtain ⟨v1, ee, H2, e2, g1, g2, g3⟩ := FGet (p := 0) (q := some (A, 0, n)) (l := putL someS) (H := H1) c1 (by rintro B ⟨_, _, h⟩; cases h; exact d2) (by omega) (by omega)
  obtain ⟨s1, h1, rfl, s1a⟩ : ∃ s, getL (putL someS) = some s ∧ ee = 0 ∧ StateAt (fun B => H1.length ≤ B ∧ B < H2.length) H2 s v1 := by
    rcases g3 with h | ⟨h, _⟩
    · exact h
    · rw [getL_put some_ok] at h; cases h
  rw [getL_put some_ok] at h1
  obtain rfl := Option.some.inj h1
  obtain ⟨a1, a2, a3, ev, o1, o2, o3⟩ := s1a.cells
  have ho1 : [a1, a2, i64v someS.seq, a3, i64v someS.now].all oneC = true := by simp [o1, o2, o3, oneC_int]
  simp only [slv] at e2
  subst ev
  obtain ⟨w1, Z1, f1, t1⟩ := Fsome 0 (H2 ++ [⟨0, 26, #[a1, a2, i64v someS.seq, a3, i64v someS.now], 5, false, []⟩])
  have m1 := Fstmay t1 (fun B hB => hB.2) some_sz 0
  rw [some_may] at m1
  obtain ⟨w2, Z2, f2, t2⟩ := Fsome 0 (H2 ++ [⟨0, 26, #[a1, a2, i64v someS.seq, a3, i64v someS.now], 5, false, []⟩] ++ Z1)
  have s1b : StateAt (fun B => B < (H2 ++ [(⟨0, 26, #[a1, a2, i64v someS.seq, a3, i64v someS.now], 5, false, []⟩ : Blk)] ++ Z1 ++ Z2).length) (H2 ++ [⟨0, 26, #[a1, a2, i64v someS.seq, a3, i64v someS.now], 5, false, []⟩] ++ Z1 ++ Z2) someS (.agg #[a1, a2, i64v someS.seq, a3, i64v someS.now]) :=
    s1a.move fun B hB => ⟨by simp only [List.length_append]; omega, by rw [List.append_assoc, List.append_assoc]; exact List.getElem?_append_left hB.2⟩
  have m2 := Fstsame s1b (t2.move fun B hB => ⟨hB.2, rfl⟩) (fun B hB => hB) (by omega) (by omega) 0
  rw [decide_eq_true rfl] at m2
  obtain ⟨A3, n3, H3, e3, _, _, _, u3, u4⟩ := FPut (p := 0) (H := H2 ++ [⟨0, 26, #[a1, a2, i64v someS.seq, a3, i64v someS.now], 5, false, []⟩] ++ Z1 ++ Z2) (hs := zero_at (fun _ => False) _) (fun B hB => hB.elim) (by rw [zero_len]; omega)
  rw [zero_len] at e3
  obtain ⟨w3, Z3, f3, t3⟩ := Fsome 0 H3
  obtain ⟨x1, x2, x3, rfl, ⟨q, cs, rfl, hcs, hcl, _, hLC⟩, _, _⟩ := t3
  have hq0 : q ≠ none := fun e => by subst e; simp only [CAt] at hcs; subst hcs; simp [someS] at hcl
  have hok : okq q 1 := fun e => absurd e hq0
  have hE := LC.nth SubE.len hLC (i := 0) (x := ⟨[97, 64, 98], [0, 2], [85, 84, 67, 48], [48, 32, 54, 32, 42, 32, 42, 32, 42], 0, 1, 1, 5, false⟩) rfl
  have hld := ld_ptqA (P := Tryz.prog) (T := 29) (o := 0) sz29 ag29 hcs (by rw [hcl]; decide) hq0
  rw [Nat.zero_mul, List.drop_zero] at hE
  have hk : ∀ (b : Blk) (Z : Heap), (H2 ++ [b] ++ Z)[H2.length]? = some b := fun b Z => by simp
  have hsub := Fstsub hE (some_sz.a _ (by simp [someS])) 1 0
  rw [some_sub] at hsub
  have hl1 : someS.subs.length = 1 := rfl
  rw [hl1] at f3
  have hgt : (40 : Int) < ((putL someS).length : Int) := by omega
  generalize putL someS = ps at *
  simp (disch := first | assumption | omega | (simp only [go_sem] <;> omega) | fail) only [go_sem, f0, e1, e2, ho1, f1, m1, f2, m2, e3, f3, hld, hsub, hgt, hk]
end Go.AM.Z
