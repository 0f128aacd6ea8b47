/-
  The reader and the writer of states, as plain functions; what is written is read. No condition.
-/
import Derived.Test.YtibglbjklefjdaaGreatDoorTF
set_option linter.all false
set_option linter.unusedSimpArgs false
set_option linter.unusedVariables false
set_option linter.unusedSectionVars false
namespace Go.AM.Z
open Go Go.AM Go.Proofs
set_option maxRecDepth 100000
theorem wrap64 (n : Int) : IntKind.i64.wrap n = if n % 18446744073709551616 ≥ 9223372036854775808 then n % 18446744073709551616 - 18446744073709551616 else n % 18446744073709551616 := by
  unfold IntKind.wrap
  simp [IntKind.bits, IntKind.signed]
theorem wrap64_mod (n : Int) : IntKind.i64.wrap n % 18446744073709551616 = n % 18446744073709551616 := by
  rw [wrap64]
  split <;> omega
theorem shl8 {P : Program} {c : Bool} {T : TypeId} (n : Int) : binV P c .shl T (.int .i64 n) (.int .u64 8) = some (.int .i64 (IntKind.i64.wrap (n * 256))) := by
  refine binV_ints ?_ rfl
  rfl
theorem or8 {P : Program} {c : Bool} {T : TypeId} (n : Int) (b : UInt8) : binV P c .or T (.int .i64 (IntKind.i64.wrap (n * 256))) (.int .i64 b.toNat) = some (.int .i64 (IntKind.i64.wrap (n * 256 + b.toNat))) := by
  refine binV_ints ?_ rfl
  show pureRun P (Op.intBits .or .i64 _ _) = _
  unfold Op.intBits
  show some (Value.int .i64 (IntKind.i64.wrap ((BitVec.ofInt 64 (IntKind.i64.wrap (n * 256)) ||| BitVec.ofInt 64 (b.toNat : Int)).toNat : Int))) = _
  congr 2
  have hb := b.toNat_lt
  rw [BitVec.toNat_or, BitVec.toNat_ofInt, BitVec.toNat_ofInt]
  have e1 : (IntKind.i64.wrap (n * 256) % ((2 ^ 64 : Nat) : Int)).toNat = 2 ^ 8 * (n % 72057594037927936).toNat := by
    have : ((2 ^ 64 : Nat) : Int) = 18446744073709551616 := by decide
    rw [this, wrap64_mod]
    omega
  have e2 : ((b.toNat : Int) % ((2 ^ 64 : Nat) : Int)).toNat = b.toNat := by
    have : ((2 ^ 64 : Nat) : Int) = 18446744073709551616 := by decide
    rw [this]
    omega
  rw [e1, e2, ← Nat.two_pow_add_eq_or_of_lt (by omega), wrap64, wrap64]
  have : ((2 ^ 8 * (n % 72057594037927936).toNat + b.toNat : Nat) : Int) = 256 * (n % 72057594037927936) + b.toNat := by omega
  rw [this]
  have : (256 * (n % 72057594037927936) + (b.toNat : Int)) % 18446744073709551616 = (n * 256 + (b.toNat : Int)) % 18446744073709551616 := by omega
  rw [this]
def numV (l : List UInt8) : Int := l.foldl (fun n c => IntKind.i64.wrap (n * 256 + c.toNat)) 0
theorem numV_bound : ∀ l : List UInt8, -9223372036854775808 ≤ numV l ∧ numV l ≤ 9223372036854775807 := by
  intro l
  have key : ∀ (l : List UInt8) (n : Int), (-9223372036854775808 ≤ n ∧ n ≤ 9223372036854775807) → -9223372036854775808 ≤ l.foldl (fun n c => IntKind.i64.wrap (n * 256 + c.toNat)) n ∧ l.foldl (fun n c => IntKind.i64.wrap (n * 256 + c.toNat)) n ≤ 9223372036854775807 := by
    intro l
    induction l with
    | nil => intro n h; exact h
    | cons c l ih =>
      intro n h
      refine ih _ ?_
      show -9223372036854775808 ≤ IntKind.i64.wrap (n * 256 + c.toNat) ∧ IntKind.i64.wrap (n * 256 + c.toNat) ≤ 9223372036854775807
      rw [wrap64]
      split <;> omega
  exact key l 0 (by omega)
structure RdAt (H : Heap) (A : Nat) (q : Q) (l : List UInt8) : Prop where
  cell : ∃ e fl, fl ≤ 1 ∧ H[A]? = some ⟨0, e, #[slv q l.length 1], fl, false, []⟩
  bts : CAt H q (u8s l)
  ne : ∀ B, inq q B → B + 2 < A
theorem RdAt.okq {H : Heap} {A : Nat} {q : Q} {l : List UInt8} (h : RdAt H A q l) : okq q l.length := h.bts.okq (s := 1) (by simp) (by omega)
theorem RdAt.lt {H : Heap} {A : Nat} {q : Q} {l : List UInt8} (h : RdAt H A q l) : A < H.length := by
  obtain ⟨e, fl, _, h⟩ := h.cell
  exact (List.getElem?_eq_some_iff.1 h).1
theorem RdAt.keep {H H' : Heap} {A : Nat} {q : Q} {l : List UInt8} (h : RdAt H A q l) (hk : ∀ B, B ≤ A → H'[B]? = H[B]?) : RdAt H' A q l where
  cell := by obtain ⟨e, fl, h1, h2⟩ := h.cell; exact ⟨e, fl, h1, (hk A (Nat.le_refl _)).trans h2⟩
  bts := h.bts.keep fun B hB => hk B (by have := h.ne B hB; omega)
  ne := h.ne
def Fr (A : Nat) (H H' : Heap) : Prop := H.length ≤ H'.length ∧ ∀ B, B < H.length → B ≠ A → H'[B]? = H[B]?
theorem Fr.refl (A : Nat) (H : Heap) : Fr A H H := ⟨Nat.le_refl _, fun _ _ _ => rfl⟩
theorem Fr.trans {A : Nat} {a b c : Heap} (h : Fr A a b) (k : Fr A b c) : Fr A a c := ⟨Nat.le_trans h.1 k.1, fun B h1 h2 => (k.2 B (Nat.lt_of_lt_of_le h1 h.1) h2).trans (h.2 B h1 h2)⟩
theorem Fr.set (A : Nat) (H : Heap) (B : Blk) : Fr A H (H.set A B) := ⟨by simp, fun C _ h => List.getElem?_set_ne (fun e => h e.symm)⟩
theorem Fr.push (A : Nat) (H X : Heap) : Fr A H (H ++ X) := ⟨by simp, fun C h _ => List.getElem?_append_left h⟩
theorem RdAt.next {H H' : Heap} {A k : Nat} {q : Q} {l : List UInt8} (h : RdAt H A q l) (hk : k ≤ l.length) (hc : ∃ e fl, fl ≤ 1 ∧ H'[A]? = some ⟨0, e, #[slv (shq q k) (l.length - k) 1], fl, false, []⟩) (hf : Fr A H H') : RdAt H' A (shq q k) (l.drop k) where
  cell := by rw [List.length_drop]; exact hc
  bts := by
    have := h.bts.shift k (by simpa using hk)
    rw [show (u8s l).drop k = u8s (l.drop k) by simp [u8s, List.map_drop]] at this
    refine this.keep fun B hB => hf.2 B ?_ ?_
    · have hlt := h.lt
      have := h.ne B (by obtain ⟨o, n, hB⟩ := hB; rcases q with _ | ⟨x, y, z⟩ <;> simp [shq] at hB; exact ⟨y, z, by rw [hB.1]⟩)
      omega
    · have := h.ne B (by obtain ⟨o, n, hB⟩ := hB; rcases q with _ | ⟨x, y, z⟩ <;> simp [shq] at hB; exact ⟨y, z, by rw [hB.1]⟩)
      omega
  ne := fun B hB => h.ne B (by obtain ⟨o, n, hB⟩ := hB; rcases q with _ | ⟨x, y, z⟩ <;> simp [shq] at hB; exact ⟨y, z, by rw [hB.1]⟩)
abbrev ptr0 (A n : Nat) : Value := .pointer (some ⟨A, 0, some n⟩)
attribute [go_sem] ptr0
def wrongP : List PanicEntry := [{ v := .iface 89 (.agg #[]), recovered := false }]
theorem Ftake_ok {A : Nat} {q : Q} {l : List UInt8} {n : Int} {p : Nat} {H : Heap} (h : RdAt H A q l) (hp : p ≤ A) (hn : 0 ≤ n ∧ n ≤ l.length) :
    ∃ B, F 88 #[ptr0 A 1, .int .i64 n] p H = some (.returned (slv q n.toNat 1), H.set A B) ∧ RdAt (H.set A B) A (shq q n.toNat) (l.drop n.toNat) := by
  obtain ⟨e, fl, hfl, hA⟩ := h.cell
  have hq := h.okq
  have hlt := h.lt
  refine ⟨⟨0, e, #[slv (shq q n.toNat) (l.length - n.toNat) 1], 1, false, []⟩, ?_, h.next (by omega) ⟨_, _, Nat.le_refl _, List.getElem?_set_self hlt⟩ (Fr.set _ _ _)⟩
  rw [F, F_loud (f := 88) (X := X) (cl := cl) rfl rfl rfl Tryz.func88 rfl, Tryz.results88]
  have h1 : ¬ n < 0 := by omega
  have h2 : ¬ (l.length : Int) < n := by omega
  simp (disch := first | assumption | omega | (simp only [go_sem] <;> omega)) only [go_sem, hA, h1, h2]
theorem Ftake_bad {A : Nat} {q : Q} {l : List UInt8} {n : Int} {p : Nat} {H : Heap} (h : RdAt H A q l) (hn : ¬ (0 ≤ n ∧ n ≤ l.length)) :
    F 88 #[ptr0 A 1, .int .i64 n] p H = some (.panicked wrongP, H) := by
  obtain ⟨e, fl, hfl, hA⟩ := h.cell
  have hq := h.okq
  rw [F, F_loud (f := 88) (X := X) (cl := cl) rfl rfl rfl Tryz.func88 rfl, Tryz.results88]
  by_cases h1 : n < 0
  · simp (disch := first | assumption | omega | (simp only [go_sem] <;> omega)) only [go_sem, hA, h1]
    rfl
  · have h2 : (l.length : Int) < n := by omega
    simp (disch := first | assumption | omega | (simp only [go_sem] <;> omega)) only [go_sem, hA, h1, h2]
    rfl
theorem Fnum_ok {A : Nat} {q : Q} {l : List UInt8} {p : Nat} {H : Heap} (h : RdAt H A q l) (hp : p ≤ A) (h8 : 8 ≤ l.length) :
    ∃ B, F 50 #[ptr0 A 1] p H = some (.returned (.int .i64 (numV (l.take 8))), H.set A B) ∧ RdAt (H.set A B) A (shq q 8) (l.drop 8) := by
  obtain ⟨B, e1, h1⟩ := Ftake_ok (n := 8) h hp (by omega)
  refine ⟨B, ?_, h1⟩
  have hk : ∀ C, inq q C → (H.set A B)[C]? = H[C]? := fun C hC => List.getElem?_set_ne (fun e => by have := h.ne C hC; omega)
  have hc := (h.bts.take 8).keep hk
  have hq : okq q 8 := by
    have := h.okq
    intro hn
    have := this hn
    omega
  generalize H.set A B = H1 at *
  rw [F, F_loud (f := 50) (X := X) (cl := cl) rfl rfl rfl Tryz.func50 rfl, Tryz.results50]
  have e1' : F 88 #[.pointer (some ⟨A, 0, some 1⟩), .int .i64 8] p H = some (.returned (slv q 8 1), H1) := e1
  simp (disch := first | assumption | omega | (simp only [go_sem] <;> omega)) only [go_sem, e1']
  generalize hL : Code.loop _ = L
  have key : ∀ (k i : Nat) (t : Nat → Value), k + i = 8 → t 9 = .int .i64 i → t 8 = .int .i64 8 → t 7 = slv q 8 1 → t 3 = .int .i64 (numV (l.take i)) →
      ∃ t', limR Tryz.prog cl X L p ⟨t, [], H1⟩ = some (.exit 0, ⟨t', [], H1⟩) ∧ t' 3 = .int .i64 (numV (l.take 8)) := by
    intro k
    induction k with
    | zero =>
      intro i t hi h9 h8' h7 h3
      obtain rfl : i = 8 := by omega
      rw [← hL, E_loop, hL]
      simp (disch := first | assumption | omega | (simp only [go_sem] <;> omega)) only [go_sem, h9, h8', h7, h3]
      exact ⟨_, rfl, by simp only [go_sem, h3]⟩
    | succ k ih =>
      intro i t hi h9 h8' h7 h3
      have hlt : (i : Int) < 8 := by omega
      obtain ⟨c, hcc⟩ : ∃ c, l[i]? = some c := ⟨l[i]'(by omega), List.getElem?_eq_getElem (by omega)⟩
      have hld := ld_ptq (P := Tryz.prog) (T := 5) sz5 ag5 un5 hc (o := i) (v := u8v c) (by
        rw [List.getElem?_take_of_lt (by omega)]; simp [u8s, hcc])
      rw [← hL, E_loop, hL]
      have hcv : ∀ {p' : Nat}, cvS Tryz.prog p' 5 3 (u8v c) H1 = some (.int .i64 c.toNat, H1) := by
        intro p'; rw [cvS_ne (by decide), conv_intInt Tryz.underlying5 Tryz.underlying3, wrap_i64 (by omega) (by have := c.toNat_lt; omega)]
      simp (disch := first | assumption | omega | (simp only [go_sem] <;> omega)) only [go_sem, h9, h8', h7, h3, hlt, hld, hcv, shl8, or8]
      refine ih (i + 1) _ (by omega) ?_ ?_ ?_ ?_
      · simp only [go_sem]; rfl
      · simp only [go_sem, h8']
      · simp only [go_sem, h7]
      · simp only [go_sem]
        rw [List.take_add_one, hcc]
        simp [numV]
  generalize hT : upd _ 9 _ = T
  obtain ⟨t', k1, k2⟩ := key 8 0 T rfl (by rw [← hT]; simp only [go_sem]; try rfl) (by rw [← hT]; simp only [go_sem]; try rfl) (by rw [← hT]; simp only [go_sem]) (by rw [← hT]; simp only [go_sem]; try rfl)
  rw [k1]
  simp only [go_sem, k2]
theorem Fnum_bad {A : Nat} {q : Q} {l : List UInt8} {p : Nat} {H : Heap} (h : RdAt H A q l) (h8 : l.length < 8) :
    F 50 #[ptr0 A 1] p H = some (.panicked wrongP, H) := by
  have e1 : F 88 #[.pointer (some ⟨A, 0, some 1⟩), .int .i64 8] p H = some (.panicked wrongP, H) := Ftake_bad (n := 8) h (by omega)
  rw [F, F_loud (f := 50) (X := X) (cl := cl) rfl rfl rfl Tryz.func50 rfl, Tryz.results50]
  simp (disch := first | assumption | omega | (simp only [go_sem] <;> omega)) only [go_sem, e1]
  rfl
abbrev Pa (α : Type) := List UInt8 → Option (α × List UInt8)
def numP : Pa Int := fun l => if 8 ≤ l.length then some (numV (l.take 8), l.drop 8) else none
def takeP (n : Int) : Pa (List UInt8) := fun l => if 0 ≤ n ∧ n ≤ l.length then some (l.take n.toNat, l.drop n.toNat) else none
def textP : Pa (List UInt8) := fun l => (numP l).bind fun r => takeP r.1 r.2
def repP {α : Type} (p : Pa α) : Nat → Pa (List α)
  | 0, l => some ([], l)
  | n + 1, l => (p l).bind fun r => (repP p n r.2).bind fun s => some (r.1 :: s.1, s.2)
def listP {α : Type} (p : Pa α) : Pa (List α) := fun l => (numP l).bind fun r => if 0 ≤ r.1 ∧ r.1 ≤ r.2.length then repP p r.1.toNat r.2 else none
def Reads {α : Type} (A : Nat) (l : List UInt8) (r : Option (α × List UInt8)) (R : α → Value → Heap → Prop) (H : Heap) (call : Option (Ending × Heap)) : Prop :=
  (∃ x l' v H' q', r = some (x, l') ∧ call = some (.returned v, H') ∧ Fr A H H' ∧ RdAt H' A q' l' ∧ l'.length ≤ l.length ∧ R x v H') ∨ (r = none ∧ ∃ H', call = some (.panicked wrongP, H') ∧ Fr A H H')
theorem Fnum {A : Nat} {q : Q} {l : List UInt8} {p : Nat} {H : Heap} (h : RdAt H A q l) (hp : p ≤ A) : Reads A l (numP l) (fun x v _ => v = .int .i64 x ∧ -9223372036854775808 ≤ x ∧ x ≤ 9223372036854775807) H (F 50 #[ptr0 A 1] p H) := by
  by_cases h8 : 8 ≤ l.length
  · obtain ⟨B, e1, e2⟩ := Fnum_ok h hp h8
    exact .inl ⟨_, _, _, _, _, by rw [numP, if_pos h8], e1, Fr.set _ _ _, e2, by simp, rfl, numV_bound _⟩
  · exact .inr ⟨by rw [numP, if_neg h8], H, Fnum_bad h (by omega), Fr.refl _ _⟩
theorem Ftext {A : Nat} {q : Q} {l : List UInt8} {p : Nat} {H : Heap} (h : RdAt H A q l) (hp : p ≤ A) : Reads A l (textP l) (fun x v _ => v = str x) H (F 86 #[ptr0 A 1] p H) := by
  rw [F, F_loud (f := 86) (X := X) (cl := cl) rfl rfl rfl Tryz.func86 rfl, Tryz.results86]
  rcases Fnum h hp with ⟨n, l1, v, H1, q1, e, e1, fr, h1, hl, rfl, _⟩ | ⟨e, H1, e1, fr⟩
  · unfold ptr0 at e1
    rw [textP, e, Option.bind_some]
    by_cases hn : 0 ≤ n ∧ n ≤ l1.length
    · obtain ⟨B, e2, h2⟩ := Ftake_ok h1 hp hn
      unfold ptr0 at e2
      have hc : CAt (H1.set A B) q1 (u8s (l1.take n.toNat)) := by
        have := (h1.bts.take n.toNat).keep (H' := H1.set A B) fun C hC => List.getElem?_set_ne (fun e => by have := h1.ne C hC; omega)
        rwa [show (u8s l1).take n.toNat = u8s (l1.take n.toNat) by simp [u8s, List.map_take]] at this
      have hl2 : n.toNat = (l1.take n.toNat).length := by rw [List.length_take]; omega
      simp (disch := first | assumption | omega | (simp only [go_sem] <;> omega)) only [go_sem, e1, e2, cv33_9 _ _ _ _ hl2 hc]
      exact .inl ⟨_, _, _, _, _, by rw [takeP, if_pos hn], rfl, fr.trans (Fr.set _ _ _), h2, by simp; omega, rfl⟩
    · have e2 := Ftake_bad (p := p) h1 hn
      unfold ptr0 at e2
      simp (disch := first | assumption | omega | (simp only [go_sem] <;> omega)) only [go_sem, e1, e2]
      exact .inr ⟨by rw [takeP, if_neg hn], _, rfl, fr⟩
  · unfold ptr0 at e1
    rw [textP, e]
    simp (disch := first | assumption | omega | (simp only [go_sem] <;> omega)) only [go_sem, e1]
    exact .inr ⟨rfl, _, rfl, fr⟩
def FrN (A N : Nat) (H H' : Heap) : Prop := H.length ≤ H'.length ∧ ∀ B, B < N → B ≠ A → H'[B]? = H[B]?
theorem Fr.transN {A : Nat} {a b c : Heap} (h : Fr A a b) (k : FrN A a.length b c) : Fr A a c := ⟨Nat.le_trans h.1 k.1, fun B h1 h2 => (k.2 B h1 h2).trans (h.2 B h1 h2)⟩
def LC {α : Type} (E : α → List Value → Prop) : List α → List Value → Prop
  | [], cs => cs = []
  | x :: xs, cs => ∃ c rest, cs = c ++ rest ∧ E x c ∧ LC E xs rest
theorem LC.mono {α : Type} {E E' : α → List Value → Prop} (h : ∀ x c, E x c → E' x c) : ∀ {xs : List α} {cs : List Value}, LC E xs cs → LC E' xs cs
  | [], _, k => k
  | _ :: _, _, ⟨c, rest, e, k1, k2⟩ => ⟨c, rest, e, h _ _ k1, LC.mono h k2⟩
theorem LC.snoc {α : Type} {E : α → List Value → Prop} {x : α} {c : List Value} (hx : E x c) : ∀ {xs : List α} {cs : List Value}, LC E xs cs → LC E (xs ++ [x]) (cs ++ c)
  | [], _, k => by
    rw [LC] at k; subst k
    exact ⟨c, [], by simp, hx, rfl⟩
  | _ :: _, _, ⟨c', rest, e, k1, k2⟩ => ⟨c', rest ++ c, by rw [e, List.append_assoc], k1, LC.snoc hx k2⟩
theorem LC.length {α : Type} {E : α → List Value → Prop} {s : Nat} (hE : ∀ x c, E x c → c.length = s) : ∀ {xs : List α} {cs : List Value}, LC E xs cs → cs.length = xs.length * s
  | [], _, k => by rw [LC] at k; subst k; simp
  | _ :: _, _, ⟨c, rest, e, k1, k2⟩ => by
    rw [e, List.length_append, LC.length hE k2, hE _ _ k1, List.length_cons, Nat.succ_mul, Nat.add_comm]
theorem LC.nth {α : Type} {E : α → List Value → Prop} {s : Nat} (hE : ∀ x c, E x c → c.length = s) : ∀ {xs : List α} {cs : List Value} (_ : LC E xs cs) {i : Nat} {x : α}, xs[i]? = some x → E x ((cs.drop (i * s)).take s)
  | [], _, _, i, _, hx => by simp at hx
  | y :: ys, _, ⟨c, rest, e, k1, k2⟩, i, x, hx => by
    have hl := hE _ _ k1
    cases i with
    | zero =>
      simp only [List.getElem?_cons_zero, Option.some.injEq] at hx
      subst hx
      rw [e, Nat.zero_mul, List.drop_zero, ← hl, List.take_left']
      · exact k1
      · rfl
    | succ i =>
      rw [List.getElem?_cons_succ] at hx
      have := LC.nth hE k2 hx
      rw [e, Nat.succ_mul, Nat.add_comm, ← List.drop_drop, ← hl, List.drop_left' rfl, hl]
      exact this
structure SubL where
  addr : List UInt8
  feeds : List Int
  zone : List UInt8
  cron : List UInt8
  start : Int
  cursor : Int
  no : Int
  clock : Int
  off : Bool
structure ItemL where
  feed : Int
  seq : Int
  id : List UInt8
  title : List UInt8
  link : List UInt8
  text : List UInt8
  at_ : Int
structure OutL where
  sub : Int
  no : Int
  from_ : Int
  upto : Int
  mail : List UInt8
  cut : Int
  tried : Int
  next : Int
  out : Int
structure StateL where
  subs : List SubL
  items : List ItemL
  seq : Int
  out : List OutL
  now : Int
abbrev i64v (n : Int) : Value := .int .i64 n
abbrev i64s (l : List Int) : List Value := l.map i64v
def SubL.cells (x : SubL) (q : Q) : List Value := [str x.addr, slv q x.feeds.length 1, str x.zone, str x.cron, i64v x.start, i64v x.cursor, i64v x.no, i64v x.clock, .bool x.off]
def ItemL.cells (x : ItemL) : List Value := [i64v x.feed, i64v x.seq, str x.id, str x.title, str x.link, str x.text, i64v x.at_]
def OutL.cells (x : OutL) (q : Q) : List Value := [i64v x.sub, i64v x.no, i64v x.from_, i64v x.upto, slv q x.mail.length 1, i64v x.cut, i64v x.tried, i64v x.next, i64v x.out]
def IntE (_ : Nat → Prop) (_ : Heap) (x : Int) (cs : List Value) : Prop := cs = [i64v x]
def SubE (O : Nat → Prop) (H : Heap) (x : SubL) (cs : List Value) : Prop := ∃ q, cs = x.cells q ∧ CAt H q (i64s x.feeds) ∧ ∀ B, inq q B → O B
def ItemE (_ : Nat → Prop) (_ : Heap) (x : ItemL) (cs : List Value) : Prop := cs = x.cells
def OutE (O : Nat → Prop) (H : Heap) (x : OutL) (cs : List Value) : Prop := ∃ q, cs = x.cells q ∧ CAt H q (u8s x.mail) ∧ ∀ B, inq q B → O B
theorem IntE.move {O O' : Nat → Prop} {H H' : Heap} (_ : ∀ B, O B → O' B ∧ H'[B]? = H[B]?) {x : Int} {c : List Value} (k : IntE O H x c) : IntE O' H' x c := k
theorem ItemE.move {O O' : Nat → Prop} {H H' : Heap} (_ : ∀ B, O B → O' B ∧ H'[B]? = H[B]?) {x : ItemL} {c : List Value} (k : ItemE O H x c) : ItemE O' H' x c := k
theorem SubE.move {O O' : Nat → Prop} {H H' : Heap} (h : ∀ B, O B → O' B ∧ H'[B]? = H[B]?) {x : SubL} {c : List Value} : SubE O H x c → SubE O' H' x c :=
  fun ⟨q, e, k1, k2⟩ => ⟨q, e, k1.keep fun B hB => (h B (k2 B hB)).2, fun B hB => (h B (k2 B hB)).1⟩
theorem OutE.move {O O' : Nat → Prop} {H H' : Heap} (h : ∀ B, O B → O' B ∧ H'[B]? = H[B]?) {x : OutL} {c : List Value} : OutE O H x c → OutE O' H' x c :=
  fun ⟨q, e, k1, k2⟩ => ⟨q, e, k1.keep fun B hB => (h B (k2 B hB)).2, fun B hB => (h B (k2 B hB)).1⟩
theorem IntE.len {O : Nat → Prop} {H : Heap} (x : Int) (c : List Value) (k : IntE O H x c) : c.length = 1 := by rw [IntE] at k; subst k; rfl
theorem ItemE.len {O : Nat → Prop} {H : Heap} (x : ItemL) (c : List Value) (k : ItemE O H x c) : c.length = 7 := by rw [ItemE] at k; subst k; rfl
theorem SubE.len {O : Nat → Prop} {H : Heap} (x : SubL) (c : List Value) (k : SubE O H x c) : c.length = 9 := by obtain ⟨q, rfl, _⟩ := k; rfl
theorem OutE.len {O : Nat → Prop} {H : Heap} (x : OutL) (c : List Value) (k : OutE O H x c) : c.length = 9 := by obtain ⟨q, rfl, _⟩ := k; rfl
theorem SubE.one {O : Nat → Prop} {H : Heap} {x : SubL} {c : List Value} (k : SubE O H x c) : c.all oneC = true := by obtain ⟨q, rfl, _⟩ := k; simp [SubL.cells, oneC_slv, oneC_int, oneC_str, oneC_bool]
theorem OutE.one {O : Nat → Prop} {H : Heap} {x : OutL} {c : List Value} (k : OutE O H x c) : c.all oneC = true := by obtain ⟨q, rfl, _⟩ := k; simp [OutL.cells, oneC_slv, oneC_int]
theorem ItemE.one {O : Nat → Prop} {H : Heap} {x : ItemL} {c : List Value} (k : ItemE O H x c) : c.all oneC = true := by rw [ItemE] at k; subst k; rfl
def ListAt {α : Type} (E : (Nat → Prop) → Heap → α → List Value → Prop) (s : Nat) (O : Nat → Prop) (H : Heap) (xs : List α) (v : Value) : Prop :=
  ∃ q cs, v = slv q xs.length s ∧ CAt H q cs ∧ cs.length = xs.length * s ∧ (∀ B, inq q B → O B) ∧ LC (E O H) xs cs
def bindP {α β : Type} (p : Pa α) (f : α → Pa β) : Pa β := fun l => (p l).bind fun r => f r.1 r.2
def retP {α : Type} (x : α) : Pa α := fun l => some (x, l)
theorem bindP_some {α β : Type} {p : Pa α} {f : α → Pa β} {l l' : List UInt8} {x : α} (h : p l = some (x, l')) : bindP p f l = f x l' := by unfold bindP; rw [h]; rfl
theorem bindP_none {α β : Type} {p : Pa α} {f : α → Pa β} {l : List UInt8} (h : p l = none) : bindP p f l = none := by unfold bindP; rw [h]; rfl
def offP : Pa Bool := fun l => match l with
  | [] => none
  | c :: l' => if c.toNat ≤ 1 then some (decide (c.toNat = 1), l') else none
def subP : Pa SubL := bindP textP fun a => bindP (listP numP) fun f => bindP textP fun z => bindP textP fun c => bindP numP fun n1 => bindP numP fun n2 => bindP numP fun n3 => bindP numP fun n4 => bindP offP fun o => retP ⟨a, f, z, c, n1, n2, n3, n4, o⟩
def itemP : Pa ItemL := bindP numP fun a => bindP numP fun b => bindP textP fun c => bindP textP fun d => bindP textP fun e => bindP textP fun f => bindP numP fun g => retP ⟨a, b, c, d, e, f, g⟩
def outP : Pa OutL := bindP numP fun a => bindP numP fun b => bindP numP fun c => bindP numP fun d => bindP textP fun m => bindP numP fun e => bindP numP fun f => bindP numP fun g => bindP numP fun h => retP ⟨a, b, c, d, m, e, f, g, h⟩
def stateP : Pa StateL := bindP (listP subP) fun a => bindP (listP itemP) fun b => bindP numP fun c => bindP (listP outP) fun d => bindP numP fun e => retP ⟨a, b, c, d, e⟩
def getL (l : List UInt8) : Option StateL := match stateP l with
  | some (s, []) => some s
  | _ => none
theorem Fsome_int {A : Nat} {q : Q} {l : List UInt8} {p : Nat} {H : Heap} (h : RdAt H A q l) (hp : p ≤ A) (hb : l.length ≤ 4294967296) :
    Reads A l (listP numP l) (fun xs v H' => ListAt IntE 1 (fun B => H.length ≤ B ∧ B < H'.length) H' xs v) H (F 87 #[ptr0 A 1, .func (.func 50) #[ptr0 A 1] #[]] p H) := by
  rw [F, F_loud (f := 87) (X := X) (cl := cl) rfl rfl rfl Tryz.func87 rfl, Tryz.results87]
  have hAH := h.lt
  rcases Fnum h hp with ⟨n, l1, v, H1, q1, e, e1, fr, h1, hl, rfl, hn1, hn2⟩ | ⟨e, H1, e1, fr⟩
  · unfold ptr0 at e1
    rw [listP, e, Option.bind_some]
    obtain ⟨eb, fl, hfl, hA⟩ := h1.cell
    have hq := h1.okq
    by_cases hn : 0 ≤ n ∧ n ≤ l1.length
    · have hx1 : ¬ n < 0 := by omega
      have hx2 : ¬ (l1.length : Int) < n := by omega
      simp (disch := first | assumption | omega | (simp only [go_sem] <;> omega)) only [go_sem, e1, hA, hx1, hx2]
      rw [if_pos hn]
      generalize hL : Code.loop _ = L
      have key : ∀ (k i : Nat) (t : Nat → Value) (H' : Heap) (l' : List UInt8) (q' qs : Q) (xs : List Int) (cs : List Value), k + i = n.toNat → xs.length = i → RdAt H' A q' l' → l'.length ≤ l1.length → H1.length ≤ H'.length →
          OwnS p H' qs cs → cs.length = i * 1 → (∀ B, inq qs B → H.length ≤ B) → LC (IntE (fun B => (H.length ≤ B ∧ B < H'.length) ∧ ¬ inq qs B) H') xs cs →
          t 23 = .int .i64 i → t 22 = .int .i64 n → t 6 = slv qs i 1 → t 1 = .func (.func 50) #[ptr0 A 1] #[] →
          (∃ ys l'' t' H'' q'' qs' cs', repP numP k l' = some (ys, l'') ∧ limR Tryz.prog cl X L p ⟨t, [], H'⟩ = some (.exit 0, ⟨t', [], H''⟩) ∧ t' 6 = slv qs' (xs ++ ys).length 1 ∧ CAt H'' qs' cs' ∧ cs'.length = (xs ++ ys).length * 1 ∧
              (∀ B, inq qs' B → H.length ≤ B ∧ B < H''.length) ∧ LC (IntE (fun B => H.length ≤ B ∧ B < H''.length) H'') (xs ++ ys) cs' ∧ FrN A H.length H' H'' ∧ RdAt H'' A q'' l'' ∧ l''.length ≤ l'.length) ∨
            (repP numP k l' = none ∧ ∃ t' H'', limR Tryz.prog cl X L p ⟨t, [], H'⟩ = some (.panic wrongP, ⟨t', [], H''⟩) ∧ FrN A H.length H' H'') := by
        intro k
        induction k with
        | zero =>
          intro i t H' l' q' qs xs cs hi hxl hr hl' hH' hO hcl hqs hLC h23 h22 h6 h1'
          have hi2 : ¬ (i : Int) < n := by omega
          rw [← hL, E_loop, hL]
          simp (disch := first | assumption | omega | (simp only [go_sem] <;> omega)) only [go_sem, h23, h22, h6, h1', hi2]
          refine .inl ⟨[], l', _, _, _, qs, cs, rfl, rfl, by simp only [go_sem, h6]; simp [hxl], hO.cat, by simp [hxl, hcl], fun B hB => ⟨hqs B hB, (hO.lt hB).2⟩, ?_, ⟨Nat.le_refl _, fun _ _ _ => rfl⟩, hr, Nat.le_refl _⟩
          rw [List.append_nil]
          exact LC.mono (fun x c => IntE.move (fun B hB => ⟨hB.1, rfl⟩)) hLC
        | succ k ih =>
          intro i t H' l' q' qs xs cs hi hxl hr hl' hH' hO hcl hqs hLC h23 h22 h6 h1'
          have hi2 : (i : Int) < n := by omega
          rw [← hL, E_loop, hL]
          rcases Fnum hr hp with ⟨x, l2, v, H2, q2, f, f1, fr2, h2, hl2, hR⟩ | ⟨f, H2, f1, fr2⟩
          · unfold ptr0 at f1
            obtain ⟨rfl, hb1, hb2⟩ := hR
            obtain ⟨c, hc0⟩ : ∃ c, c = [i64v x] := ⟨_, rfl⟩
            have hE : IntE (fun B => H'.length ≤ B ∧ B < H2.length) H2 x c := hc0
            have hfill : fillW Tryz.prog 27 1 [(0, i64v x)] = some (3, 1, c.toArray) := by rw [hc0]; exact fl27_1 _ rfl
            have hcl1 : c.length = 1 := IntE.len _ _ hE
            have hO2 : OwnS p (H2 ++ [cel 3 c.toArray]) qs cs := hO.keep fun B hB => by
              have hBl := (hO.lt hB).2
              have := hqs B hB
              rw [List.getElem?_append_left (by have := fr2.1; omega)]
              exact fr2.2 B hBl (by omega)
            have hsrc : srcOf (H2 ++ [cel 3 c.toArray]) 1 (.slice (some ⟨H2.length, 0, some 1⟩) 1 1) = some (c.toArray, 1) := by
              have hcat : CAt (H2 ++ [cel 3 c.toArray]) (some (H2.length, 0, 1)) c := by
                rw [CAt, hcl1]
                exact rd_iff.2 ⟨cel 3 c.toArray, by simp, ⟨rfl, Nat.zero_le _, by omega, by simp [cel, hcl1]⟩, by rw [← hcl1]; simp [cel]⟩
              exact src_slv (s := 1) (len := 1) hcat (by rw [hcl1]) (by omega)
            obtain ⟨qs', H3, g1, g2, g3, g4, g5, g6⟩ := app_own (P := Tryz.prog) (T' := 27) (st := 27) (q := qs) (len := i) (m := 1) Tryz.underlying27 ei27 (by omega) ap27 (by simp; have := hr.lt; have := fr2.1; omega) hO2 hcl hsrc (by rw [hcl1]) (by omega)
            have hsz : (c.toArray).size = 1 := by simp [hcl1]
            simp only [List.length_append, List.length_cons, List.length_nil] at g3 g4 g5
            have g1' := g1
            simp only [cel] at g1'
            have hl2H : H'.length ≤ H2.length := fr2.1
            have hrlt := hr.lt
            simp (disch := first | assumption | omega | (simp only [go_sem] <;> omega)) only [go_sem, h23, h22, h6, h1', hi2, f1, hfill, hsz, g1']
            have h3 : RdAt H3 A q2 l2 := h2.keep fun B hB => by
              rw [g4 B (by omega) (fun hc => by have := hqs B hc; omega), List.getElem?_append_left (by omega)]
            have hH1 := fr.1
            have hLC3 : LC (IntE (fun B => (H.length ≤ B ∧ B < H3.length) ∧ ¬ inq qs' B) H3) (xs ++ [x]) (cs ++ c) := by
              refine LC.snoc (IntE.move (O := fun B => H'.length ≤ B ∧ B < H2.length) ?_ hE) (LC.mono (fun x c => IntE.move ?_) hLC)
              · rintro B ⟨hB1, hB2⟩
                have hnq : ¬ inq qs B := fun hc => by have := (hO.lt hc).2; omega
                refine ⟨⟨⟨by omega, by omega⟩, fun hc => ?_⟩, ?_⟩
                · rcases g5 B hc with hc | hc
                  · exact hnq hc
                  · omega
                · rw [g4 B (by omega) hnq, List.getElem?_append_left (by omega)]
              · intro B hB
                refine ⟨⟨⟨hB.1.1, by omega⟩, fun hc => ?_⟩, ?_⟩
                · rcases g5 B hc with hc | hc
                  · exact hB.2 hc
                  · omega
                · rw [g4 B (by omega) hB.2, List.getElem?_append_left (by omega)]
                  exact fr2.2 B hB.1.2 (by omega)
            have hfrA : ∀ B, B < H.length → B ≠ A → H3[B]? = H'[B]? := fun B hB hne => by
              rw [g4 B (by omega) (fun hc => by have := hqs B hc; omega), List.getElem?_append_left (by omega)]
              exact fr2.2 B (by omega) hne
            have ih' := fun (t : Nat → Value) => ih (i + 1) t H3 l2 q2 qs' (xs ++ [x]) (cs ++ c) (by omega) (by simp [hxl]) h3 (by omega) (by omega) g2 (by rw [List.length_append, hcl, hcl1]; omega) (fun B hB => by
              rcases g5 B hB with hc | hc
              · exact hqs B hc
              · omega) hLC3
            generalize hT : upd _ 23 _ = T
            rcases ih' T (by rw [← hT]; simp only [go_sem]; rfl) (by rw [← hT]; simp only [go_sem, h22]) (by rw [← hT]; simp only [go_sem]) (by rw [← hT]; simp only [go_sem, h1']) with ⟨ys, l'', t', H'', q'', qs'', cs', a1, a2, a3, a4, a5, a6, a7, a8, a9, a10⟩ | ⟨a1, t', H'', a2, a8⟩
            · refine .inl ⟨x :: ys, l'', t', H'', q'', qs'', cs', by rw [repP, f]; simp only [Option.bind_some, a1], a2, ?_, a4, ?_, a6, ?_, ?_, a9, by omega⟩
              · rw [a3]; simp
              · rw [a5]; simp
              · rw [List.append_assoc] at a7; exact a7
              · exact ⟨by have := a8.1; omega, fun B hB hne => (a8.2 B hB hne).trans (hfrA B hB hne)⟩
            · exact .inr ⟨by rw [repP, f]; simp only [Option.bind_some, a1]; rfl, t', H'', a2, ⟨by have := a8.1; omega, fun B hB hne => (a8.2 B hB hne).trans (hfrA B hB hne)⟩⟩
          · unfold ptr0 at f1
            simp (disch := first | assumption | omega | (simp only [go_sem] <;> omega)) only [go_sem, h23, h22, h6, h1', hi2, f1]
            have hH1 := fr.1
            exact .inr ⟨by rw [repP, f]; rfl, _, _, rfl, fr2.1, fun B hB hne => fr2.2 B (by omega) hne⟩
      generalize hT : upd _ 23 _ = T
      rcases key n.toNat 0 T H1 l1 q1 none [] [] rfl rfl h1 (Nat.le_refl _) (Nat.le_refl _) rfl rfl (fun B hB => by obtain ⟨o, m, hB⟩ := hB; cases hB) rfl (by rw [← hT]; simp only [go_sem]; try rfl) (by rw [← hT]; simp only [go_sem]; try rfl) (by rw [← hT]; simp only [go_sem]; try rfl) (by rw [← hT]; simp only [go_sem]) with ⟨ys, l'', t', H'', q'', qs'', cs', a1, a2, a3, a4, a5, a6, a7, a8, a9, a10⟩ | ⟨a1, t', H'', a2, a8⟩
      · rw [a2]
        simp only [go_sem, a3]
        exact .inl ⟨ys, l'', _, H'', q'', a1, rfl, fr.transN a8, a9, by omega, qs'', cs', rfl, a4, a5, a6, a7⟩
      · rw [a2]
        exact .inr ⟨a1, H'', rfl, fr.transN a8⟩
    · rw [if_neg hn]
      by_cases hx1 : n < 0
      · simp (disch := first | assumption | omega | (simp only [go_sem] <;> omega)) only [go_sem, e1, hA, hx1]
        exact .inr ⟨rfl, _, rfl, fr⟩
      · have hx2 : (l1.length : Int) < n := by omega
        simp (disch := first | assumption | omega | (simp only [go_sem] <;> omega)) only [go_sem, e1, hA, hx1, hx2]
        exact .inr ⟨rfl, _, rfl, fr⟩
  · unfold ptr0 at e1
    rw [listP, e]
    simp (disch := first | assumption | omega | (simp only [go_sem] <;> omega)) only [go_sem, e1]
    exact .inr ⟨rfl, _, rfl, fr⟩
theorem Fsome_sub {A : Nat} {q : Q} {l : List UInt8} {p : Nat} {H : Heap} (h : RdAt H A q l) (hp : p ≤ A) (hb : l.length ≤ 4294967296) (hone : ∀ (H' : Heap) (q' : Q) (l' : List UInt8), RdAt H' A q' l' → l'.length ≤ l.length → Reads A l' (subP l') (fun x v H'' => ∃ c, v = .agg (List.toArray c) ∧ SubE (fun B => H'.length ≤ B ∧ B < H''.length) H'' x c) H' (F 47 #[ptr0 A 1] p H')) :
    Reads A l (listP subP l) (fun xs v H' => ListAt SubE 9 (fun B => H.length ≤ B ∧ B < H'.length) H' xs v) H (F 46 #[ptr0 A 1, .func (.func 47) #[ptr0 A 1] #[]] p H) := by
  rw [F, F_loud (f := 46) (X := X) (cl := cl) rfl rfl rfl Tryz.func46 rfl, Tryz.results46]
  have hAH := h.lt
  rcases Fnum h hp with ⟨n, l1, v, H1, q1, e, e1, fr, h1, hl, rfl, hn1, hn2⟩ | ⟨e, H1, e1, fr⟩
  · unfold ptr0 at e1
    rw [listP, e, Option.bind_some]
    obtain ⟨eb, fl, hfl, hA⟩ := h1.cell
    have hq := h1.okq
    by_cases hn : 0 ≤ n ∧ n ≤ l1.length
    · have hx1 : ¬ n < 0 := by omega
      have hx2 : ¬ (l1.length : Int) < n := by omega
      simp (disch := first | assumption | omega | (simp only [go_sem] <;> omega)) only [go_sem, e1, hA, hx1, hx2]
      rw [if_pos hn]
      generalize hL : Code.loop _ = L
      have key : ∀ (k i : Nat) (t : Nat → Value) (H' : Heap) (l' : List UInt8) (q' qs : Q) (xs : List SubL) (cs : List Value), k + i = n.toNat → xs.length = i → RdAt H' A q' l' → l'.length ≤ l1.length → H1.length ≤ H'.length →
          OwnS p H' qs cs → cs.length = i * 9 → (∀ B, inq qs B → H.length ≤ B) → LC (SubE (fun B => (H.length ≤ B ∧ B < H'.length) ∧ ¬ inq qs B) H') xs cs →
          t 23 = .int .i64 i → t 22 = .int .i64 n → t 6 = slv qs i 9 → t 1 = .func (.func 47) #[ptr0 A 1] #[] →
          (∃ ys l'' t' H'' q'' qs' cs', repP subP k l' = some (ys, l'') ∧ limR Tryz.prog cl X L p ⟨t, [], H'⟩ = some (.exit 0, ⟨t', [], H''⟩) ∧ t' 6 = slv qs' (xs ++ ys).length 9 ∧ CAt H'' qs' cs' ∧ cs'.length = (xs ++ ys).length * 9 ∧
              (∀ B, inq qs' B → H.length ≤ B ∧ B < H''.length) ∧ LC (SubE (fun B => H.length ≤ B ∧ B < H''.length) H'') (xs ++ ys) cs' ∧ FrN A H.length H' H'' ∧ RdAt H'' A q'' l'' ∧ l''.length ≤ l'.length) ∨
            (repP subP k l' = none ∧ ∃ t' H'', limR Tryz.prog cl X L p ⟨t, [], H'⟩ = some (.panic wrongP, ⟨t', [], H''⟩) ∧ FrN A H.length H' H'') := by
        intro k
        induction k with
        | zero =>
          intro i t H' l' q' qs xs cs hi hxl hr hl' hH' hO hcl hqs hLC h23 h22 h6 h1'
          have hi2 : ¬ (i : Int) < n := by omega
          rw [← hL, E_loop, hL]
          simp (disch := first | assumption | omega | (simp only [go_sem] <;> omega)) only [go_sem, h23, h22, h6, h1', hi2]
          refine .inl ⟨[], l', _, _, _, qs, cs, rfl, rfl, by simp only [go_sem, h6]; simp [hxl], hO.cat, by simp [hxl, hcl], fun B hB => ⟨hqs B hB, (hO.lt hB).2⟩, ?_, ⟨Nat.le_refl _, fun _ _ _ => rfl⟩, hr, Nat.le_refl _⟩
          rw [List.append_nil]
          exact LC.mono (fun x c => SubE.move (fun B hB => ⟨hB.1, rfl⟩)) hLC
        | succ k ih =>
          intro i t H' l' q' qs xs cs hi hxl hr hl' hH' hO hcl hqs hLC h23 h22 h6 h1'
          have hi2 : (i : Int) < n := by omega
          rw [← hL, E_loop, hL]
          rcases hone H' q' l' hr (by omega) with ⟨x, l2, v, H2, q2, f, f1, fr2, h2, hl2, hR⟩ | ⟨f, H2, f1, fr2⟩
          · unfold ptr0 at f1
            obtain ⟨c, rfl, hE⟩ := hR
            have hfill : fillW Tryz.prog 22 1 [(0, .agg c.toArray)] = some (29, 9, c.toArray) := fl22_1 c (SubE.one hE) (SubE.len _ _ hE)
            have hcl1 : c.length = 9 := SubE.len _ _ hE
            have hO2 : OwnS p (H2 ++ [cel 29 c.toArray]) qs cs := hO.keep fun B hB => by
              have hBl := (hO.lt hB).2
              have := hqs B hB
              rw [List.getElem?_append_left (by have := fr2.1; omega)]
              exact fr2.2 B hBl (by omega)
            have hsrc : srcOf (H2 ++ [cel 29 c.toArray]) 9 (.slice (some ⟨H2.length, 0, some 9⟩) 1 9) = some (c.toArray, 1) := by
              have hcat : CAt (H2 ++ [cel 29 c.toArray]) (some (H2.length, 0, 9)) c := by
                rw [CAt, hcl1]
                exact rd_iff.2 ⟨cel 29 c.toArray, by simp, ⟨rfl, Nat.zero_le _, by omega, by simp [cel, hcl1]⟩, by rw [← hcl1]; simp [cel]⟩
              exact src_slv (s := 9) (len := 1) hcat (by rw [hcl1]) (by omega)
            obtain ⟨qs', H3, g1, g2, g3, g4, g5, g6⟩ := app_own (P := Tryz.prog) (T' := 22) (st := 22) (q := qs) (len := i) (m := 1) Tryz.underlying22 ei22 (by omega) ap22 (by simp; have := hr.lt; have := fr2.1; omega) hO2 hcl hsrc (by rw [hcl1]) (by omega)
            have hsz : (c.toArray).size = 9 := by simp [hcl1]
            simp only [List.length_append, List.length_cons, List.length_nil] at g3 g4 g5
            have g1' := g1
            simp only [cel] at g1'
            have hl2H : H'.length ≤ H2.length := fr2.1
            have hrlt := hr.lt
            simp (disch := first | assumption | omega | (simp only [go_sem] <;> omega)) only [go_sem, h23, h22, h6, h1', hi2, f1, hfill, hsz, g1']
            have h3 : RdAt H3 A q2 l2 := h2.keep fun B hB => by
              rw [g4 B (by omega) (fun hc => by have := hqs B hc; omega), List.getElem?_append_left (by omega)]
            have hH1 := fr.1
            have hLC3 : LC (SubE (fun B => (H.length ≤ B ∧ B < H3.length) ∧ ¬ inq qs' B) H3) (xs ++ [x]) (cs ++ c) := by
              refine LC.snoc (SubE.move (O := fun B => H'.length ≤ B ∧ B < H2.length) ?_ hE) (LC.mono (fun x c => SubE.move ?_) hLC)
              · rintro B ⟨hB1, hB2⟩
                have hnq : ¬ inq qs B := fun hc => by have := (hO.lt hc).2; omega
                refine ⟨⟨⟨by omega, by omega⟩, fun hc => ?_⟩, ?_⟩
                · rcases g5 B hc with hc | hc
                  · exact hnq hc
                  · omega
                · rw [g4 B (by omega) hnq, List.getElem?_append_left (by omega)]
              · intro B hB
                refine ⟨⟨⟨hB.1.1, by omega⟩, fun hc => ?_⟩, ?_⟩
                · rcases g5 B hc with hc | hc
                  · exact hB.2 hc
                  · omega
                · rw [g4 B (by omega) hB.2, List.getElem?_append_left (by omega)]
                  exact fr2.2 B hB.1.2 (by omega)
            have hfrA : ∀ B, B < H.length → B ≠ A → H3[B]? = H'[B]? := fun B hB hne => by
              rw [g4 B (by omega) (fun hc => by have := hqs B hc; omega), List.getElem?_append_left (by omega)]
              exact fr2.2 B (by omega) hne
            have ih' := fun (t : Nat → Value) => ih (i + 1) t H3 l2 q2 qs' (xs ++ [x]) (cs ++ c) (by omega) (by simp [hxl]) h3 (by omega) (by omega) g2 (by rw [List.length_append, hcl, hcl1]; omega) (fun B hB => by
              rcases g5 B hB with hc | hc
              · exact hqs B hc
              · omega) hLC3
            generalize hT : upd _ 23 _ = T
            rcases ih' T (by rw [← hT]; simp only [go_sem]; rfl) (by rw [← hT]; simp only [go_sem, h22]) (by rw [← hT]; simp only [go_sem]) (by rw [← hT]; simp only [go_sem, h1']) with ⟨ys, l'', t', H'', q'', qs'', cs', a1, a2, a3, a4, a5, a6, a7, a8, a9, a10⟩ | ⟨a1, t', H'', a2, a8⟩
            · refine .inl ⟨x :: ys, l'', t', H'', q'', qs'', cs', by rw [repP, f]; simp only [Option.bind_some, a1], a2, ?_, a4, ?_, a6, ?_, ?_, a9, by omega⟩
              · rw [a3]; simp
              · rw [a5]; simp
              · rw [List.append_assoc] at a7; exact a7
              · exact ⟨by have := a8.1; omega, fun B hB hne => (a8.2 B hB hne).trans (hfrA B hB hne)⟩
            · exact .inr ⟨by rw [repP, f]; simp only [Option.bind_some, a1]; rfl, t', H'', a2, ⟨by have := a8.1; omega, fun B hB hne => (a8.2 B hB hne).trans (hfrA B hB hne)⟩⟩
          · unfold ptr0 at f1
            simp (disch := first | assumption | omega | (simp only [go_sem] <;> omega)) only [go_sem, h23, h22, h6, h1', hi2, f1]
            have hH1 := fr.1
            exact .inr ⟨by rw [repP, f]; rfl, _, _, rfl, fr2.1, fun B hB hne => fr2.2 B (by omega) hne⟩
      generalize hT : upd _ 23 _ = T
      rcases key n.toNat 0 T H1 l1 q1 none [] [] rfl rfl h1 (Nat.le_refl _) (Nat.le_refl _) rfl rfl (fun B hB => by obtain ⟨o, m, hB⟩ := hB; cases hB) rfl (by rw [← hT]; simp only [go_sem]; try rfl) (by rw [← hT]; simp only [go_sem]; try rfl) (by rw [← hT]; simp only [go_sem]; try rfl) (by rw [← hT]; simp only [go_sem]) with ⟨ys, l'', t', H'', q'', qs'', cs', a1, a2, a3, a4, a5, a6, a7, a8, a9, a10⟩ | ⟨a1, t', H'', a2, a8⟩
      · rw [a2]
        simp only [go_sem, a3]
        exact .inl ⟨ys, l'', _, H'', q'', a1, rfl, fr.transN a8, a9, by omega, qs'', cs', rfl, a4, a5, a6, a7⟩
      · rw [a2]
        exact .inr ⟨a1, H'', rfl, fr.transN a8⟩
    · rw [if_neg hn]
      by_cases hx1 : n < 0
      · simp (disch := first | assumption | omega | (simp only [go_sem] <;> omega)) only [go_sem, e1, hA, hx1]
        exact .inr ⟨rfl, _, rfl, fr⟩
      · have hx2 : (l1.length : Int) < n := by omega
        simp (disch := first | assumption | omega | (simp only [go_sem] <;> omega)) only [go_sem, e1, hA, hx1, hx2]
        exact .inr ⟨rfl, _, rfl, fr⟩
  · unfold ptr0 at e1
    rw [listP, e]
    simp (disch := first | assumption | omega | (simp only [go_sem] <;> omega)) only [go_sem, e1]
    exact .inr ⟨rfl, _, rfl, fr⟩
theorem Fsome_item {A : Nat} {q : Q} {l : List UInt8} {p : Nat} {H : Heap} (h : RdAt H A q l) (hp : p ≤ A) (hb : l.length ≤ 4294967296) (hone : ∀ (H' : Heap) (q' : Q) (l' : List UInt8), RdAt H' A q' l' → l'.length ≤ l.length → Reads A l' (itemP l') (fun x v H'' => ∃ c, v = .agg (List.toArray c) ∧ ItemE (fun B => H'.length ≤ B ∧ B < H''.length) H'' x c) H' (F 49 #[ptr0 A 1] p H')) :
    Reads A l (listP itemP l) (fun xs v H' => ListAt ItemE 7 (fun B => H.length ≤ B ∧ B < H'.length) H' xs v) H (F 48 #[ptr0 A 1, .func (.func 49) #[ptr0 A 1] #[]] p H) := by
  rw [F, F_loud (f := 48) (X := X) (cl := cl) rfl rfl rfl Tryz.func48 rfl, Tryz.results48]
  have hAH := h.lt
  rcases Fnum h hp with ⟨n, l1, v, H1, q1, e, e1, fr, h1, hl, rfl, hn1, hn2⟩ | ⟨e, H1, e1, fr⟩
  · unfold ptr0 at e1
    rw [listP, e, Option.bind_some]
    obtain ⟨eb, fl, hfl, hA⟩ := h1.cell
    have hq := h1.okq
    by_cases hn : 0 ≤ n ∧ n ≤ l1.length
    · have hx1 : ¬ n < 0 := by omega
      have hx2 : ¬ (l1.length : Int) < n := by omega
      simp (disch := first | assumption | omega | (simp only [go_sem] <;> omega)) only [go_sem, e1, hA, hx1, hx2]
      rw [if_pos hn]
      generalize hL : Code.loop _ = L
      have key : ∀ (k i : Nat) (t : Nat → Value) (H' : Heap) (l' : List UInt8) (q' qs : Q) (xs : List ItemL) (cs : List Value), k + i = n.toNat → xs.length = i → RdAt H' A q' l' → l'.length ≤ l1.length → H1.length ≤ H'.length →
          OwnS p H' qs cs → cs.length = i * 7 → (∀ B, inq qs B → H.length ≤ B) → LC (ItemE (fun B => (H.length ≤ B ∧ B < H'.length) ∧ ¬ inq qs B) H') xs cs →
          t 23 = .int .i64 i → t 22 = .int .i64 n → t 6 = slv qs i 7 → t 1 = .func (.func 49) #[ptr0 A 1] #[] →
          (∃ ys l'' t' H'' q'' qs' cs', repP itemP k l' = some (ys, l'') ∧ limR Tryz.prog cl X L p ⟨t, [], H'⟩ = some (.exit 0, ⟨t', [], H''⟩) ∧ t' 6 = slv qs' (xs ++ ys).length 7 ∧ CAt H'' qs' cs' ∧ cs'.length = (xs ++ ys).length * 7 ∧
              (∀ B, inq qs' B → H.length ≤ B ∧ B < H''.length) ∧ LC (ItemE (fun B => H.length ≤ B ∧ B < H''.length) H'') (xs ++ ys) cs' ∧ FrN A H.length H' H'' ∧ RdAt H'' A q'' l'' ∧ l''.length ≤ l'.length) ∨
            (repP itemP k l' = none ∧ ∃ t' H'', limR Tryz.prog cl X L p ⟨t, [], H'⟩ = some (.panic wrongP, ⟨t', [], H''⟩) ∧ FrN A H.length H' H'') := by
        intro k
        induction k with
        | zero =>
          intro i t H' l' q' qs xs cs hi hxl hr hl' hH' hO hcl hqs hLC h23 h22 h6 h1'
          have hi2 : ¬ (i : Int) < n := by omega
          rw [← hL, E_loop, hL]
          simp (disch := first | assumption | omega | (simp only [go_sem] <;> omega)) only [go_sem, h23, h22, h6, h1', hi2]
          refine .inl ⟨[], l', _, _, _, qs, cs, rfl, rfl, by simp only [go_sem, h6]; simp [hxl], hO.cat, by simp [hxl, hcl], fun B hB => ⟨hqs B hB, (hO.lt hB).2⟩, ?_, ⟨Nat.le_refl _, fun _ _ _ => rfl⟩, hr, Nat.le_refl _⟩
          rw [List.append_nil]
          exact LC.mono (fun x c => ItemE.move (fun B hB => ⟨hB.1, rfl⟩)) hLC
        | succ k ih =>
          intro i t H' l' q' qs xs cs hi hxl hr hl' hH' hO hcl hqs hLC h23 h22 h6 h1'
          have hi2 : (i : Int) < n := by omega
          rw [← hL, E_loop, hL]
          rcases hone H' q' l' hr (by omega) with ⟨x, l2, v, H2, q2, f, f1, fr2, h2, hl2, hR⟩ | ⟨f, H2, f1, fr2⟩
          · unfold ptr0 at f1
            obtain ⟨c, rfl, hE⟩ := hR
            have hfill : fillW Tryz.prog 23 1 [(0, .agg c.toArray)] = some (48, 7, c.toArray) := fl23_1 c (ItemE.one hE) (ItemE.len _ _ hE)
            have hcl1 : c.length = 7 := ItemE.len _ _ hE
            have hO2 : OwnS p (H2 ++ [cel 48 c.toArray]) qs cs := hO.keep fun B hB => by
              have hBl := (hO.lt hB).2
              have := hqs B hB
              rw [List.getElem?_append_left (by have := fr2.1; omega)]
              exact fr2.2 B hBl (by omega)
            have hsrc : srcOf (H2 ++ [cel 48 c.toArray]) 7 (.slice (some ⟨H2.length, 0, some 7⟩) 1 7) = some (c.toArray, 1) := by
              have hcat : CAt (H2 ++ [cel 48 c.toArray]) (some (H2.length, 0, 7)) c := by
                rw [CAt, hcl1]
                exact rd_iff.2 ⟨cel 48 c.toArray, by simp, ⟨rfl, Nat.zero_le _, by omega, by simp [cel, hcl1]⟩, by rw [← hcl1]; simp [cel]⟩
              exact src_slv (s := 7) (len := 1) hcat (by rw [hcl1]) (by omega)
            obtain ⟨qs', H3, g1, g2, g3, g4, g5, g6⟩ := app_own (P := Tryz.prog) (T' := 23) (st := 23) (q := qs) (len := i) (m := 1) Tryz.underlying23 ei23 (by omega) ap23 (by simp; have := hr.lt; have := fr2.1; omega) hO2 hcl hsrc (by rw [hcl1]) (by omega)
            have hsz : (c.toArray).size = 7 := by simp [hcl1]
            simp only [List.length_append, List.length_cons, List.length_nil] at g3 g4 g5
            have g1' := g1
            simp only [cel] at g1'
            have hl2H : H'.length ≤ H2.length := fr2.1
            have hrlt := hr.lt
            simp (disch := first | assumption | omega | (simp only [go_sem] <;> omega)) only [go_sem, h23, h22, h6, h1', hi2, f1, hfill, hsz, g1']
            have h3 : RdAt H3 A q2 l2 := h2.keep fun B hB => by
              rw [g4 B (by omega) (fun hc => by have := hqs B hc; omega), List.getElem?_append_left (by omega)]
            have hH1 := fr.1
            have hLC3 : LC (ItemE (fun B => (H.length ≤ B ∧ B < H3.length) ∧ ¬ inq qs' B) H3) (xs ++ [x]) (cs ++ c) := by
              refine LC.snoc (ItemE.move (O := fun B => H'.length ≤ B ∧ B < H2.length) ?_ hE) (LC.mono (fun x c => ItemE.move ?_) hLC)
              · rintro B ⟨hB1, hB2⟩
                have hnq : ¬ inq qs B := fun hc => by have := (hO.lt hc).2; omega
                refine ⟨⟨⟨by omega, by omega⟩, fun hc => ?_⟩, ?_⟩
                · rcases g5 B hc with hc | hc
                  · exact hnq hc
                  · omega
                · rw [g4 B (by omega) hnq, List.getElem?_append_left (by omega)]
              · intro B hB
                refine ⟨⟨⟨hB.1.1, by omega⟩, fun hc => ?_⟩, ?_⟩
                · rcases g5 B hc with hc | hc
                  · exact hB.2 hc
                  · omega
                · rw [g4 B (by omega) hB.2, List.getElem?_append_left (by omega)]
                  exact fr2.2 B hB.1.2 (by omega)
            have hfrA : ∀ B, B < H.length → B ≠ A → H3[B]? = H'[B]? := fun B hB hne => by
              rw [g4 B (by omega) (fun hc => by have := hqs B hc; omega), List.getElem?_append_left (by omega)]
              exact fr2.2 B (by omega) hne
            have ih' := fun (t : Nat → Value) => ih (i + 1) t H3 l2 q2 qs' (xs ++ [x]) (cs ++ c) (by omega) (by simp [hxl]) h3 (by omega) (by omega) g2 (by rw [List.length_append, hcl, hcl1]; omega) (fun B hB => by
              rcases g5 B hB with hc | hc
              · exact hqs B hc
              · omega) hLC3
            generalize hT : upd _ 23 _ = T
            rcases ih' T (by rw [← hT]; simp only [go_sem]; rfl) (by rw [← hT]; simp only [go_sem, h22]) (by rw [← hT]; simp only [go_sem]) (by rw [← hT]; simp only [go_sem, h1']) with ⟨ys, l'', t', H'', q'', qs'', cs', a1, a2, a3, a4, a5, a6, a7, a8, a9, a10⟩ | ⟨a1, t', H'', a2, a8⟩
            · refine .inl ⟨x :: ys, l'', t', H'', q'', qs'', cs', by rw [repP, f]; simp only [Option.bind_some, a1], a2, ?_, a4, ?_, a6, ?_, ?_, a9, by omega⟩
              · rw [a3]; simp
              · rw [a5]; simp
              · rw [List.append_assoc] at a7; exact a7
              · exact ⟨by have := a8.1; omega, fun B hB hne => (a8.2 B hB hne).trans (hfrA B hB hne)⟩
            · exact .inr ⟨by rw [repP, f]; simp only [Option.bind_some, a1]; rfl, t', H'', a2, ⟨by have := a8.1; omega, fun B hB hne => (a8.2 B hB hne).trans (hfrA B hB hne)⟩⟩
          · unfold ptr0 at f1
            simp (disch := first | assumption | omega | (simp only [go_sem] <;> omega)) only [go_sem, h23, h22, h6, h1', hi2, f1]
            have hH1 := fr.1
            exact .inr ⟨by rw [repP, f]; rfl, _, _, rfl, fr2.1, fun B hB hne => fr2.2 B (by omega) hne⟩
      generalize hT : upd _ 23 _ = T
      rcases key n.toNat 0 T H1 l1 q1 none [] [] rfl rfl h1 (Nat.le_refl _) (Nat.le_refl _) rfl rfl (fun B hB => by obtain ⟨o, m, hB⟩ := hB; cases hB) rfl (by rw [← hT]; simp only [go_sem]; try rfl) (by rw [← hT]; simp only [go_sem]; try rfl) (by rw [← hT]; simp only [go_sem]; try rfl) (by rw [← hT]; simp only [go_sem]) with ⟨ys, l'', t', H'', q'', qs'', cs', a1, a2, a3, a4, a5, a6, a7, a8, a9, a10⟩ | ⟨a1, t', H'', a2, a8⟩
      · rw [a2]
        simp only [go_sem, a3]
        exact .inl ⟨ys, l'', _, H'', q'', a1, rfl, fr.transN a8, a9, by omega, qs'', cs', rfl, a4, a5, a6, a7⟩
      · rw [a2]
        exact .inr ⟨a1, H'', rfl, fr.transN a8⟩
    · rw [if_neg hn]
      by_cases hx1 : n < 0
      · simp (disch := first | assumption | omega | (simp only [go_sem] <;> omega)) only [go_sem, e1, hA, hx1]
        exact .inr ⟨rfl, _, rfl, fr⟩
      · have hx2 : (l1.length : Int) < n := by omega
        simp (disch := first | assumption | omega | (simp only [go_sem] <;> omega)) only [go_sem, e1, hA, hx1, hx2]
        exact .inr ⟨rfl, _, rfl, fr⟩
  · unfold ptr0 at e1
    rw [listP, e]
    simp (disch := first | assumption | omega | (simp only [go_sem] <;> omega)) only [go_sem, e1]
    exact .inr ⟨rfl, _, rfl, fr⟩
theorem Fsome_out {A : Nat} {q : Q} {l : List UInt8} {p : Nat} {H : Heap} (h : RdAt H A q l) (hp : p ≤ A) (hb : l.length ≤ 4294967296) (hone : ∀ (H' : Heap) (q' : Q) (l' : List UInt8), RdAt H' A q' l' → l'.length ≤ l.length → Reads A l' (outP l') (fun x v H'' => ∃ c, v = .agg (List.toArray c) ∧ OutE (fun B => H'.length ≤ B ∧ B < H''.length) H'' x c) H' (F 52 #[ptr0 A 1] p H')) :
    Reads A l (listP outP l) (fun xs v H' => ListAt OutE 9 (fun B => H.length ≤ B ∧ B < H'.length) H' xs v) H (F 51 #[ptr0 A 1, .func (.func 52) #[ptr0 A 1] #[]] p H) := by
  rw [F, F_loud (f := 51) (X := X) (cl := cl) rfl rfl rfl Tryz.func51 rfl, Tryz.results51]
  have hAH := h.lt
  rcases Fnum h hp with ⟨n, l1, v, H1, q1, e, e1, fr, h1, hl, rfl, hn1, hn2⟩ | ⟨e, H1, e1, fr⟩
  · unfold ptr0 at e1
    rw [listP, e, Option.bind_some]
    obtain ⟨eb, fl, hfl, hA⟩ := h1.cell
    have hq := h1.okq
    by_cases hn : 0 ≤ n ∧ n ≤ l1.length
    · have hx1 : ¬ n < 0 := by omega
      have hx2 : ¬ (l1.length : Int) < n := by omega
      simp (disch := first | assumption | omega | (simp only [go_sem] <;> omega)) only [go_sem, e1, hA, hx1, hx2]
      rw [if_pos hn]
      generalize hL : Code.loop _ = L
      have key : ∀ (k i : Nat) (t : Nat → Value) (H' : Heap) (l' : List UInt8) (q' qs : Q) (xs : List OutL) (cs : List Value), k + i = n.toNat → xs.length = i → RdAt H' A q' l' → l'.length ≤ l1.length → H1.length ≤ H'.length →
          OwnS p H' qs cs → cs.length = i * 9 → (∀ B, inq qs B → H.length ≤ B) → LC (OutE (fun B => (H.length ≤ B ∧ B < H'.length) ∧ ¬ inq qs B) H') xs cs →
          t 23 = .int .i64 i → t 22 = .int .i64 n → t 6 = slv qs i 9 → t 1 = .func (.func 52) #[ptr0 A 1] #[] →
          (∃ ys l'' t' H'' q'' qs' cs', repP outP k l' = some (ys, l'') ∧ limR Tryz.prog cl X L p ⟨t, [], H'⟩ = some (.exit 0, ⟨t', [], H''⟩) ∧ t' 6 = slv qs' (xs ++ ys).length 9 ∧ CAt H'' qs' cs' ∧ cs'.length = (xs ++ ys).length * 9 ∧
              (∀ B, inq qs' B → H.length ≤ B ∧ B < H''.length) ∧ LC (OutE (fun B => H.length ≤ B ∧ B < H''.length) H'') (xs ++ ys) cs' ∧ FrN A H.length H' H'' ∧ RdAt H'' A q'' l'' ∧ l''.length ≤ l'.length) ∨
            (repP outP k l' = none ∧ ∃ t' H'', limR Tryz.prog cl X L p ⟨t, [], H'⟩ = some (.panic wrongP, ⟨t', [], H''⟩) ∧ FrN A H.length H' H'') := by
        intro k
        induction k with
        | zero =>
          intro i t H' l' q' qs xs cs hi hxl hr hl' hH' hO hcl hqs hLC h23 h22 h6 h1'
          have hi2 : ¬ (i : Int) < n := by omega
          rw [← hL, E_loop, hL]
          simp (disch := first | assumption | omega | (simp only [go_sem] <;> omega)) only [go_sem, h23, h22, h6, h1', hi2]
          refine .inl ⟨[], l', _, _, _, qs, cs, rfl, rfl, by simp only [go_sem, h6]; simp [hxl], hO.cat, by simp [hxl, hcl], fun B hB => ⟨hqs B hB, (hO.lt hB).2⟩, ?_, ⟨Nat.le_refl _, fun _ _ _ => rfl⟩, hr, Nat.le_refl _⟩
          rw [List.append_nil]
          exact LC.mono (fun x c => OutE.move (fun B hB => ⟨hB.1, rfl⟩)) hLC
        | succ k ih =>
          intro i t H' l' q' qs xs cs hi hxl hr hl' hH' hO hcl hqs hLC h23 h22 h6 h1'
          have hi2 : (i : Int) < n := by omega
          rw [← hL, E_loop, hL]
          rcases hone H' q' l' hr (by omega) with ⟨x, l2, v, H2, q2, f, f1, fr2, h2, hl2, hR⟩ | ⟨f, H2, f1, fr2⟩
          · unfold ptr0 at f1
            obtain ⟨c, rfl, hE⟩ := hR
            have hfill : fillW Tryz.prog 24 1 [(0, .agg c.toArray)] = some (44, 9, c.toArray) := fl24_1 c (OutE.one hE) (OutE.len _ _ hE)
            have hcl1 : c.length = 9 := OutE.len _ _ hE
            have hO2 : OwnS p (H2 ++ [cel 44 c.toArray]) qs cs := hO.keep fun B hB => by
              have hBl := (hO.lt hB).2
              have := hqs B hB
              rw [List.getElem?_append_left (by have := fr2.1; omega)]
              exact fr2.2 B hBl (by omega)
            have hsrc : srcOf (H2 ++ [cel 44 c.toArray]) 9 (.slice (some ⟨H2.length, 0, some 9⟩) 1 9) = some (c.toArray, 1) := by
              have hcat : CAt (H2 ++ [cel 44 c.toArray]) (some (H2.length, 0, 9)) c := by
                rw [CAt, hcl1]
                exact rd_iff.2 ⟨cel 44 c.toArray, by simp, ⟨rfl, Nat.zero_le _, by omega, by simp [cel, hcl1]⟩, by rw [← hcl1]; simp [cel]⟩
              exact src_slv (s := 9) (len := 1) hcat (by rw [hcl1]) (by omega)
            obtain ⟨qs', H3, g1, g2, g3, g4, g5, g6⟩ := app_own (P := Tryz.prog) (T' := 24) (st := 24) (q := qs) (len := i) (m := 1) Tryz.underlying24 ei24 (by omega) ap24 (by simp; have := hr.lt; have := fr2.1; omega) hO2 hcl hsrc (by rw [hcl1]) (by omega)
            have hsz : (c.toArray).size = 9 := by simp [hcl1]
            simp only [List.length_append, List.length_cons, List.length_nil] at g3 g4 g5
            have g1' := g1
            simp only [cel] at g1'
            have hl2H : H'.length ≤ H2.length := fr2.1
            have hrlt := hr.lt
            simp (disch := first | assumption | omega | (simp only [go_sem] <;> omega)) only [go_sem, h23, h22, h6, h1', hi2, f1, hfill, hsz, g1']
            have h3 : RdAt H3 A q2 l2 := h2.keep fun B hB => by
              rw [g4 B (by omega) (fun hc => by have := hqs B hc; omega), List.getElem?_append_left (by omega)]
            have hH1 := fr.1
            have hLC3 : LC (OutE (fun B => (H.length ≤ B ∧ B < H3.length) ∧ ¬ inq qs' B) H3) (xs ++ [x]) (cs ++ c) := by
              refine LC.snoc (OutE.move (O := fun B => H'.length ≤ B ∧ B < H2.length) ?_ hE) (LC.mono (fun x c => OutE.move ?_) hLC)
              · rintro B ⟨hB1, hB2⟩
                have hnq : ¬ inq qs B := fun hc => by have := (hO.lt hc).2; omega
                refine ⟨⟨⟨by omega, by omega⟩, fun hc => ?_⟩, ?_⟩
                · rcases g5 B hc with hc | hc
                  · exact hnq hc
                  · omega
                · rw [g4 B (by omega) hnq, List.getElem?_append_left (by omega)]
              · intro B hB
                refine ⟨⟨⟨hB.1.1, by omega⟩, fun hc => ?_⟩, ?_⟩
                · rcases g5 B hc with hc | hc
                  · exact hB.2 hc
                  · omega
                · rw [g4 B (by omega) hB.2, List.getElem?_append_left (by omega)]
                  exact fr2.2 B hB.1.2 (by omega)
            have hfrA : ∀ B, B < H.length → B ≠ A → H3[B]? = H'[B]? := fun B hB hne => by
              rw [g4 B (by omega) (fun hc => by have := hqs B hc; omega), List.getElem?_append_left (by omega)]
              exact fr2.2 B (by omega) hne
            have ih' := fun (t : Nat → Value) => ih (i + 1) t H3 l2 q2 qs' (xs ++ [x]) (cs ++ c) (by omega) (by simp [hxl]) h3 (by omega) (by omega) g2 (by rw [List.length_append, hcl, hcl1]; omega) (fun B hB => by
              rcases g5 B hB with hc | hc
              · exact hqs B hc
              · omega) hLC3
            generalize hT : upd _ 23 _ = T
            rcases ih' T (by rw [← hT]; simp only [go_sem]; rfl) (by rw [← hT]; simp only [go_sem, h22]) (by rw [← hT]; simp only [go_sem]) (by rw [← hT]; simp only [go_sem, h1']) with ⟨ys, l'', t', H'', q'', qs'', cs', a1, a2, a3, a4, a5, a6, a7, a8, a9, a10⟩ | ⟨a1, t', H'', a2, a8⟩
            · refine .inl ⟨x :: ys, l'', t', H'', q'', qs'', cs', by rw [repP, f]; simp only [Option.bind_some, a1], a2, ?_, a4, ?_, a6, ?_, ?_, a9, by omega⟩
              · rw [a3]; simp
              · rw [a5]; simp
              · rw [List.append_assoc] at a7; exact a7
              · exact ⟨by have := a8.1; omega, fun B hB hne => (a8.2 B hB hne).trans (hfrA B hB hne)⟩
            · exact .inr ⟨by rw [repP, f]; simp only [Option.bind_some, a1]; rfl, t', H'', a2, ⟨by have := a8.1; omega, fun B hB hne => (a8.2 B hB hne).trans (hfrA B hB hne)⟩⟩
          · unfold ptr0 at f1
            simp (disch := first | assumption | omega | (simp only [go_sem] <;> omega)) only [go_sem, h23, h22, h6, h1', hi2, f1]
            have hH1 := fr.1
            exact .inr ⟨by rw [repP, f]; rfl, _, _, rfl, fr2.1, fun B hB hne => fr2.2 B (by omega) hne⟩
      generalize hT : upd _ 23 _ = T
      rcases key n.toNat 0 T H1 l1 q1 none [] [] rfl rfl h1 (Nat.le_refl _) (Nat.le_refl _) rfl rfl (fun B hB => by obtain ⟨o, m, hB⟩ := hB; cases hB) rfl (by rw [← hT]; simp only [go_sem]; try rfl) (by rw [← hT]; simp only [go_sem]; try rfl) (by rw [← hT]; simp only [go_sem]; try rfl) (by rw [← hT]; simp only [go_sem]) with ⟨ys, l'', t', H'', q'', qs'', cs', a1, a2, a3, a4, a5, a6, a7, a8, a9, a10⟩ | ⟨a1, t', H'', a2, a8⟩
      · rw [a2]
        simp only [go_sem, a3]
        exact .inl ⟨ys, l'', _, H'', q'', a1, rfl, fr.transN a8, a9, by omega, qs'', cs', rfl, a4, a5, a6, a7⟩
      · rw [a2]
        exact .inr ⟨a1, H'', rfl, fr.transN a8⟩
    · rw [if_neg hn]
      by_cases hx1 : n < 0
      · simp (disch := first | assumption | omega | (simp only [go_sem] <;> omega)) only [go_sem, e1, hA, hx1]
        exact .inr ⟨rfl, _, rfl, fr⟩
      · have hx2 : (l1.length : Int) < n := by omega
        simp (disch := first | assumption | omega | (simp only [go_sem] <;> omega)) only [go_sem, e1, hA, hx1, hx2]
        exact .inr ⟨rfl, _, rfl, fr⟩
  · unfold ptr0 at e1
    rw [listP, e]
    simp (disch := first | assumption | omega | (simp only [go_sem] <;> omega)) only [go_sem, e1]
    exact .inr ⟨rfl, _, rfl, fr⟩
structure Mid (H0 H' : Heap) (A : Nat) (q : Q) (l : List UInt8) (T : TypeId) (cs : List Value) : Prop where
  rd : RdAt H' A q l
  blk : ∃ fl, fl ≤ cs.length ∧ H'[H0.length]? = some ⟨0, T, cs.toArray, fl, false, []⟩
  fr : FrN A H0.length H0 H'
theorem Mid.lt {H0 H' : Heap} {A : Nat} {q : Q} {l : List UInt8} {T : TypeId} {cs : List Value} (h : Mid H0 H' A q l T cs) : H0.length < H'.length := by
  obtain ⟨fl, _, h⟩ := h.blk
  exact (List.getElem?_eq_some_iff.1 h).1
theorem Mid.start {H0 : Heap} {A : Nat} {q : Q} {l : List UInt8} (h : RdAt H0 A q l) (T : TypeId) (cs : List Value) : Mid H0 (H0 ++ [⟨0, T, cs.toArray, 0, false, []⟩]) A q l T cs where
  rd := h.keep fun B hB => List.getElem?_append_left (by have := h.lt; omega)
  blk := ⟨0, Nat.zero_le _, by simp⟩
  fr := ⟨by simp, fun B hB _ => List.getElem?_append_left hB⟩
theorem Mid.call {H0 H1 H2 : Heap} {A : Nat} {q q' : Q} {l l' : List UInt8} {T : TypeId} {cs : List Value} (hA : A < H0.length) (h : Mid H0 H1 A q l T cs) (hf : Fr A H1 H2) (hr : RdAt H2 A q' l') : Mid H0 H2 A q' l' T cs where
  rd := hr
  blk := by
    obtain ⟨fl, h1, h2⟩ := h.blk
    exact ⟨fl, h1, (hf.2 _ h.lt (by omega)).trans h2⟩
  fr := ⟨Nat.le_trans h.fr.1 hf.1, fun B hB hne => (hf.2 B (by have := h.fr.1; omega) hne).trans (h.fr.2 B hB hne)⟩
theorem Mid.store {H0 H1 : Heap} {A : Nat} {q : Q} {l : List UInt8} {T : TypeId} {cs : List Value} (hA : A < H0.length) (h : Mid H0 H1 A q l T cs) (cs' : List Value) (n : Nat) (hn : n ≤ cs'.length) : Mid H0 (H1.set H0.length ⟨0, T, cs'.toArray, n, false, []⟩) A q l T cs' where
  rd := h.rd.keep fun B hB => List.getElem?_set_ne (by omega)
  blk := ⟨n, hn, List.getElem?_set_self h.lt⟩
  fr := ⟨by rw [List.length_set]; exact h.fr.1, fun B hB hne => by rw [List.getElem?_set_ne (by omega)]; exact h.fr.2 B hB hne⟩
theorem intE_all {O : Nat → Prop} {H : Heap} : ∀ {xs : List Int} {cs : List Value}, LC (IntE O H) xs cs → cs = i64s xs
  | [], _, h => h
  | x :: xs, _, ⟨c, rest, e, h1, h2⟩ => by rw [e, intE_all h2, show c = [i64v x] from h1]; rfl
theorem Fitem {A : Nat} {q : Q} {l : List UInt8} {p : Nat} {H : Heap} (h : RdAt H A q l) (hp : p ≤ A) (hb : l.length ≤ 4294967296) : Reads A l (itemP l) (fun x v H' => ∃ c, v = .agg (List.toArray c) ∧ ItemE (fun B => H.length ≤ B ∧ B < H'.length) H' x c) H (F 49 #[ptr0 A 1] p H) := by
  rw [F, F_loud (f := 49) (X := X) (cl := cl) rfl rfl rfl Tryz.func49 rfl, Tryz.results49]
  have hA := h.lt
  simp (disch := first | assumption | omega | (simp only [go_sem] <;> omega)) only [go_sem]
  have m0 := Mid.start h 48 [i64v 0, i64v 0, str [], str [], str [], str [], i64v 0]
  generalize hH0 : H ++ _ = H0 at *
  clear hH0
  have hl0 : l.length ≤ l.length := Nat.le_refl _
  rcases Fnum m0.rd hp with ⟨x1, l1, v1, H1, q1, e1, f1, fr1, r1, hl1, rfl, hb1, hc1⟩ | ⟨e1, H1, f1, fr1⟩
  rotate_left
  · unfold ptr0 at f1
    simp (disch := first | assumption | omega | (simp only [go_sem] <;> omega)) only [go_sem, f1]
    exact .inr ⟨by rw [itemP, bindP_none e1], H1, rfl, by have := m0.fr.1; have := fr1.1; omega, fun B hB hne => (fr1.2 B (by have := m0.fr.1; omega) hne).trans (m0.fr.2 B hB hne)⟩
  unfold ptr0 at f1
  have m1 := m0.call hA fr1 r1
  obtain ⟨fl1, hfl1, hbl1⟩ := m1.blk
  have hlt1 := m1.lt
  simp only [List.length_cons, List.length_nil, Nat.reduceAdd] at hfl1
  simp (disch := first | assumption | omega | (simp only [go_sem] <;> omega)) only [go_sem, f1, hbl1, List.set_set]
  rcases Fnum m1.rd hp with ⟨x2, l2, v2, H2, q2, e2, f2, fr2, r2, hl2, rfl, hb2, hc2⟩ | ⟨e2, H2, f2, fr2⟩
  rotate_left
  · unfold ptr0 at f2
    simp (disch := first | assumption | omega | (simp only [go_sem] <;> omega)) only [go_sem, f2]
    exact .inr ⟨by rw [itemP, bindP_some e1, bindP_none e2], H2, rfl, by have := m1.fr.1; have := fr2.1; omega, fun B hB hne => (fr2.2 B (by have := m1.fr.1; omega) hne).trans (m1.fr.2 B hB hne)⟩
  unfold ptr0 at f2
  have m2 := m1.call hA fr2 r2
  obtain ⟨fl2, hfl2, hbl2⟩ := m2.blk
  have hlt2 := m2.lt
  simp only [List.length_cons, List.length_nil, Nat.reduceAdd] at hfl2
  simp (disch := first | assumption | omega | (simp only [go_sem] <;> omega)) only [go_sem, f2, hbl2, List.set_set]
  have m2' := m2.store hA [i64v x1, i64v x2, str [], str [], str [], str [], i64v 0] 7 (by simp)
  generalize hG2 : List.set H2 H.length _ = G2 at *
  clear hG2
  clear m2
  have m2 := m2'
  clear m2' 
  rcases Ftext m2.rd hp with ⟨x3, l3, v3, H3, q3, e3, f3, fr3, r3, hl3, rfl⟩ | ⟨e3, H3, f3, fr3⟩
  rotate_left
  · unfold ptr0 at f3
    simp (disch := first | assumption | omega | (simp only [go_sem] <;> omega)) only [go_sem, f3]
    exact .inr ⟨by rw [itemP, bindP_some e1, bindP_some e2, bindP_none e3], H3, rfl, by have := m2.fr.1; have := fr3.1; omega, fun B hB hne => (fr3.2 B (by have := m2.fr.1; omega) hne).trans (m2.fr.2 B hB hne)⟩
  unfold ptr0 at f3
  have m3 := m2.call hA fr3 r3
  obtain ⟨fl3, hfl3, hbl3⟩ := m3.blk
  have hlt3 := m3.lt
  simp only [List.length_cons, List.length_nil, Nat.reduceAdd] at hfl3
  simp (disch := first | assumption | omega | (simp only [go_sem] <;> omega)) only [go_sem, f3, hbl3, List.set_set]
  rcases Ftext m3.rd hp with ⟨x4, l4, v4, H4, q4, e4, f4, fr4, r4, hl4, rfl⟩ | ⟨e4, H4, f4, fr4⟩
  rotate_left
  · unfold ptr0 at f4
    simp (disch := first | assumption | omega | (simp only [go_sem] <;> omega)) only [go_sem, f4]
    exact .inr ⟨by rw [itemP, bindP_some e1, bindP_some e2, bindP_some e3, bindP_none e4], H4, rfl, by have := m3.fr.1; have := fr4.1; omega, fun B hB hne => (fr4.2 B (by have := m3.fr.1; omega) hne).trans (m3.fr.2 B hB hne)⟩
  unfold ptr0 at f4
  have m4 := m3.call hA fr4 r4
  obtain ⟨fl4, hfl4, hbl4⟩ := m4.blk
  have hlt4 := m4.lt
  simp only [List.length_cons, List.length_nil, Nat.reduceAdd] at hfl4
  simp (disch := first | assumption | omega | (simp only [go_sem] <;> omega)) only [go_sem, f4, hbl4, List.set_set]
  rcases Ftext m4.rd hp with ⟨x5, l5, v5, H5, q5, e5, f5, fr5, r5, hl5, rfl⟩ | ⟨e5, H5, f5, fr5⟩
  rotate_left
  · unfold ptr0 at f5
    simp (disch := first | assumption | omega | (simp only [go_sem] <;> omega)) only [go_sem, f5]
    exact .inr ⟨by rw [itemP, bindP_some e1, bindP_some e2, bindP_some e3, bindP_some e4, bindP_none e5], H5, rfl, by have := m4.fr.1; have := fr5.1; omega, fun B hB hne => (fr5.2 B (by have := m4.fr.1; omega) hne).trans (m4.fr.2 B hB hne)⟩
  unfold ptr0 at f5
  have m5 := m4.call hA fr5 r5
  obtain ⟨fl5, hfl5, hbl5⟩ := m5.blk
  have hlt5 := m5.lt
  simp only [List.length_cons, List.length_nil, Nat.reduceAdd] at hfl5
  simp (disch := first | assumption | omega | (simp only [go_sem] <;> omega)) only [go_sem, f5, hbl5, List.set_set]
  rcases Ftext m5.rd hp with ⟨x6, l6, v6, H6, q6, e6, f6, fr6, r6, hl6, rfl⟩ | ⟨e6, H6, f6, fr6⟩
  rotate_left
  · unfold ptr0 at f6
    simp (disch := first | assumption | omega | (simp only [go_sem] <;> omega)) only [go_sem, f6]
    exact .inr ⟨by rw [itemP, bindP_some e1, bindP_some e2, bindP_some e3, bindP_some e4, bindP_some e5, bindP_none e6], H6, rfl, by have := m5.fr.1; have := fr6.1; omega, fun B hB hne => (fr6.2 B (by have := m5.fr.1; omega) hne).trans (m5.fr.2 B hB hne)⟩
  unfold ptr0 at f6
  have m6 := m5.call hA fr6 r6
  obtain ⟨fl6, hfl6, hbl6⟩ := m6.blk
  have hlt6 := m6.lt
  simp only [List.length_cons, List.length_nil, Nat.reduceAdd] at hfl6
  simp (disch := first | assumption | omega | (simp only [go_sem] <;> omega)) only [go_sem, f6, hbl6, List.set_set]
  have m6' := m6.store hA [i64v x1, i64v x2, str x3, str x4, str x5, str x6, i64v 0] 7 (by simp)
  generalize hG6 : List.set H6 H.length _ = G6 at *
  clear hG6
  clear m6
  have m6 := m6'
  clear m6' 
  rcases Fnum m6.rd hp with ⟨x7, l7, v7, H7, q7, e7, f7, fr7, r7, hl7, rfl, hb7, hc7⟩ | ⟨e7, H7, f7, fr7⟩
  rotate_left
  · unfold ptr0 at f7
    simp (disch := first | assumption | omega | (simp only [go_sem] <;> omega)) only [go_sem, f7]
    exact .inr ⟨by rw [itemP, bindP_some e1, bindP_some e2, bindP_some e3, bindP_some e4, bindP_some e5, bindP_some e6, bindP_none e7], H7, rfl, by have := m6.fr.1; have := fr7.1; omega, fun B hB hne => (fr7.2 B (by have := m6.fr.1; omega) hne).trans (m6.fr.2 B hB hne)⟩
  unfold ptr0 at f7
  have m7 := m6.call hA fr7 r7
  obtain ⟨fl7, hfl7, hbl7⟩ := m7.blk
  have hlt7 := m7.lt
  simp only [List.length_cons, List.length_nil, Nat.reduceAdd] at hfl7
  simp (disch := first | assumption | omega | (simp only [go_sem] <;> omega)) only [go_sem, f7, hbl7, List.set_set]
  have m7' := m7.store hA [i64v x1, i64v x2, str x3, str x4, str x5, str x6, i64v x7] 7 (by simp)
  generalize hG7 : List.set H7 H.length _ = G7 at *
  clear hG7
  clear m7
  have m7 := m7'
  clear m7' 
  exact .inl ⟨⟨x1, x2, x3, x4, x5, x6, x7⟩, l7, _, G7, q7, by rw [itemP, bindP_some e1, bindP_some e2, bindP_some e3, bindP_some e4, bindP_some e5, bindP_some e6, bindP_some e7]; rfl, rfl, ⟨by have := m7.fr.1; omega, m7.fr.2⟩, m7.rd, by omega, _, rfl, rfl⟩
theorem Fout {A : Nat} {q : Q} {l : List UInt8} {p : Nat} {H : Heap} (h : RdAt H A q l) (hp : p ≤ A) (hb : l.length ≤ 4294967296) : Reads A l (outP l) (fun x v H' => ∃ c, v = .agg (List.toArray c) ∧ OutE (fun B => H.length ≤ B ∧ B < H'.length) H' x c) H (F 52 #[ptr0 A 1] p H) := by
  rw [F, F_loud (f := 52) (X := X) (cl := cl) rfl rfl rfl Tryz.func52 rfl, Tryz.results52]
  have hA := h.lt
  simp (disch := first | assumption | omega | (simp only [go_sem] <;> omega)) only [go_sem]
  have m0 := Mid.start h 44 [i64v 0, i64v 0, i64v 0, i64v 0, .slice none 0 0, i64v 0, i64v 0, i64v 0, i64v 0]
  generalize hH0 : H ++ _ = H0 at *
  clear hH0
  have hl0 : l.length ≤ l.length := Nat.le_refl _
  rcases Fnum m0.rd hp with ⟨x1, l1, v1, H1, q1, e1, f1, fr1, r1, hl1, rfl, hb1, hc1⟩ | ⟨e1, H1, f1, fr1⟩
  rotate_left
  · unfold ptr0 at f1
    simp (disch := first | assumption | omega | (simp only [go_sem] <;> omega)) only [go_sem, f1]
    exact .inr ⟨by rw [outP, bindP_none e1], H1, rfl, by have := m0.fr.1; have := fr1.1; omega, fun B hB hne => (fr1.2 B (by have := m0.fr.1; omega) hne).trans (m0.fr.2 B hB hne)⟩
  unfold ptr0 at f1
  have m1 := m0.call hA fr1 r1
  obtain ⟨fl1, hfl1, hbl1⟩ := m1.blk
  have hlt1 := m1.lt
  simp only [List.length_cons, List.length_nil, Nat.reduceAdd] at hfl1
  simp (disch := first | assumption | omega | (simp only [go_sem] <;> omega)) only [go_sem, f1, hbl1, List.set_set]
  rcases Fnum m1.rd hp with ⟨x2, l2, v2, H2, q2, e2, f2, fr2, r2, hl2, rfl, hb2, hc2⟩ | ⟨e2, H2, f2, fr2⟩
  rotate_left
  · unfold ptr0 at f2
    simp (disch := first | assumption | omega | (simp only [go_sem] <;> omega)) only [go_sem, f2]
    exact .inr ⟨by rw [outP, bindP_some e1, bindP_none e2], H2, rfl, by have := m1.fr.1; have := fr2.1; omega, fun B hB hne => (fr2.2 B (by have := m1.fr.1; omega) hne).trans (m1.fr.2 B hB hne)⟩
  unfold ptr0 at f2
  have m2 := m1.call hA fr2 r2
  obtain ⟨fl2, hfl2, hbl2⟩ := m2.blk
  have hlt2 := m2.lt
  simp only [List.length_cons, List.length_nil, Nat.reduceAdd] at hfl2
  simp (disch := first | assumption | omega | (simp only [go_sem] <;> omega)) only [go_sem, f2, hbl2, List.set_set]
  rcases Fnum m2.rd hp with ⟨x3, l3, v3, H3, q3, e3, f3, fr3, r3, hl3, rfl, hb3, hc3⟩ | ⟨e3, H3, f3, fr3⟩
  rotate_left
  · unfold ptr0 at f3
    simp (disch := first | assumption | omega | (simp only [go_sem] <;> omega)) only [go_sem, f3]
    exact .inr ⟨by rw [outP, bindP_some e1, bindP_some e2, bindP_none e3], H3, rfl, by have := m2.fr.1; have := fr3.1; omega, fun B hB hne => (fr3.2 B (by have := m2.fr.1; omega) hne).trans (m2.fr.2 B hB hne)⟩
  unfold ptr0 at f3
  have m3 := m2.call hA fr3 r3
  obtain ⟨fl3, hfl3, hbl3⟩ := m3.blk
  have hlt3 := m3.lt
  simp only [List.length_cons, List.length_nil, Nat.reduceAdd] at hfl3
  simp (disch := first | assumption | omega | (simp only [go_sem] <;> omega)) only [go_sem, f3, hbl3, List.set_set]
  rcases Fnum m3.rd hp with ⟨x4, l4, v4, H4, q4, e4, f4, fr4, r4, hl4, rfl, hb4, hc4⟩ | ⟨e4, H4, f4, fr4⟩
  rotate_left
  · unfold ptr0 at f4
    simp (disch := first | assumption | omega | (simp only [go_sem] <;> omega)) only [go_sem, f4]
    exact .inr ⟨by rw [outP, bindP_some e1, bindP_some e2, bindP_some e3, bindP_none e4], H4, rfl, by have := m3.fr.1; have := fr4.1; omega, fun B hB hne => (fr4.2 B (by have := m3.fr.1; omega) hne).trans (m3.fr.2 B hB hne)⟩
  unfold ptr0 at f4
  have m4 := m3.call hA fr4 r4
  obtain ⟨fl4, hfl4, hbl4⟩ := m4.blk
  have hlt4 := m4.lt
  simp only [List.length_cons, List.length_nil, Nat.reduceAdd] at hfl4
  simp (disch := first | assumption | omega | (simp only [go_sem] <;> omega)) only [go_sem, f4, hbl4, List.set_set]
  have m4' := m4.store hA [i64v x1, i64v x2, i64v x3, i64v x4, .slice none 0 0, i64v 0, i64v 0, i64v 0, i64v 0] 9 (by simp)
  generalize hG4 : List.set H4 H.length _ = G4 at *
  clear hG4
  clear m4
  have m4 := m4'
  clear m4' 
  rcases Ftext m4.rd hp with ⟨x5, l5, v5, H5, q5, e5, f5, fr5, r5, hl5, rfl⟩ | ⟨e5, H5, f5, fr5⟩
  rotate_left
  · unfold ptr0 at f5
    simp (disch := first | assumption | omega | (simp only [go_sem] <;> omega)) only [go_sem, f5]
    exact .inr ⟨by rw [outP, bindP_some e1, bindP_some e2, bindP_some e3, bindP_some e4, bindP_none e5], H5, rfl, by have := m4.fr.1; have := fr5.1; omega, fun B hB hne => (fr5.2 B (by have := m4.fr.1; omega) hne).trans (m4.fr.2 B hB hne)⟩
  unfold ptr0 at f5
  have m5 := m4.call hA fr5 r5
  obtain ⟨fl5, hfl5, hbl5⟩ := m5.blk
  have hlt5 := m5.lt
  simp only [List.length_cons, List.length_nil, Nat.reduceAdd] at hfl5
  obtain ⟨Z5, hZ5⟩ : ∃ Z, Z = H5 ++ [cel 5 (u8s x5).toArray] := ⟨_, rfl⟩
  have hZl5 : Z5.length = H5.length + 1 := by rw [hZ5]; simp
  have hZk5 : ∀ B, B < H5.length → Z5[B]? = H5[B]? := fun B hB => by rw [hZ5]; exact List.getElem?_append_left hB
  obtain ⟨qf, hqq⟩ : ∃ qf : Q, qf = some (H5.length, 0, x5.length) := ⟨_, rfl⟩
  have hqf' : ∀ B, inq qf B → H.length < B ∧ B < Z5.length := fun B hB => by obtain ⟨o, m, hB⟩ := hB; rw [hqq] at hB; cases hB; omega
  have hints : CAt Z5 qf (u8s x5) := by
    rw [hqq, CAt]
    exact rd_iff.2 ⟨cel 5 (u8s x5).toArray, by rw [hZ5]; simp, ⟨rfl, Nat.zero_le _, by simp, by simp [cel]⟩, by simp [cel, List.take_of_length_le]⟩
  have cv5 : ∀ {p' : Nat}, cvS Tryz.prog p' 9 33 (str x5) H5 = some (slv qf x5.length 1, Z5) := by intro p'; rw [cs9_33, hZ5, hqq]
  replace hbl5 := (hZk5 _ hlt5).trans hbl5
  replace m5 := m5.call hA (H2 := Z5) ⟨by omega, fun B hB _ => hZk5 B hB⟩ (r5.keep fun B hB => hZk5 B (by omega))
  clear hZ5
  simp (disch := first | assumption | omega | (simp only [go_sem] <;> omega)) only [go_sem, f5, cv5, hbl5, List.set_set]
  have m5' := m5.store hA [i64v x1, i64v x2, i64v x3, i64v x4, slv qf x5.length 1, i64v 0, i64v 0, i64v 0, i64v 0] 9 (by simp)
  generalize hG5 : List.set Z5 H.length _ = G5 at *
  replace hints := hints.keep (H' := G5) fun B hB => by rw [← hG5]; exact List.getElem?_set_ne (by have := (hqf' B hB).1; omega)
  replace hqf' : ∀ B, inq qf B → H.length < B ∧ B < G5.length := fun B hB => by rw [← hG5, List.length_set]; exact hqf' B hB
  clear hG5
  clear m5
  have m5 := m5'
  clear m5' 
  rcases Fnum m5.rd hp with ⟨x6, l6, v6, H6, q6, e6, f6, fr6, r6, hl6, rfl, hb6, hc6⟩ | ⟨e6, H6, f6, fr6⟩
  rotate_left
  · unfold ptr0 at f6
    simp (disch := first | assumption | omega | (simp only [go_sem] <;> omega)) only [go_sem, f6]
    exact .inr ⟨by rw [outP, bindP_some e1, bindP_some e2, bindP_some e3, bindP_some e4, bindP_some e5, bindP_none e6], H6, rfl, by have := m5.fr.1; have := fr6.1; omega, fun B hB hne => (fr6.2 B (by have := m5.fr.1; omega) hne).trans (m5.fr.2 B hB hne)⟩
  unfold ptr0 at f6
  have m6 := m5.call hA fr6 r6
  obtain ⟨fl6, hfl6, hbl6⟩ := m6.blk
  have hlt6 := m6.lt
  simp only [List.length_cons, List.length_nil, Nat.reduceAdd] at hfl6
  replace hints := hints.keep (H' := H6) fun B hB => fr6.2 B (by have := (hqf' B hB).2; omega) (by have := (hqf' B hB).1; omega)
  replace hqf' : ∀ B, inq qf B → H.length < B ∧ B < H6.length := fun B hB => ⟨(hqf' B hB).1, by have := (hqf' B hB).2; have := fr6.1; omega⟩
  simp (disch := first | assumption | omega | (simp only [go_sem] <;> omega)) only [go_sem, f6, hbl6, List.set_set]
  rcases Fnum m6.rd hp with ⟨x7, l7, v7, H7, q7, e7, f7, fr7, r7, hl7, rfl, hb7, hc7⟩ | ⟨e7, H7, f7, fr7⟩
  rotate_left
  · unfold ptr0 at f7
    simp (disch := first | assumption | omega | (simp only [go_sem] <;> omega)) only [go_sem, f7]
    exact .inr ⟨by rw [outP, bindP_some e1, bindP_some e2, bindP_some e3, bindP_some e4, bindP_some e5, bindP_some e6, bindP_none e7], H7, rfl, by have := m6.fr.1; have := fr7.1; omega, fun B hB hne => (fr7.2 B (by have := m6.fr.1; omega) hne).trans (m6.fr.2 B hB hne)⟩
  unfold ptr0 at f7
  have m7 := m6.call hA fr7 r7
  obtain ⟨fl7, hfl7, hbl7⟩ := m7.blk
  have hlt7 := m7.lt
  simp only [List.length_cons, List.length_nil, Nat.reduceAdd] at hfl7
  replace hints := hints.keep (H' := H7) fun B hB => fr7.2 B (by have := (hqf' B hB).2; omega) (by have := (hqf' B hB).1; omega)
  replace hqf' : ∀ B, inq qf B → H.length < B ∧ B < H7.length := fun B hB => ⟨(hqf' B hB).1, by have := (hqf' B hB).2; have := fr7.1; omega⟩
  simp (disch := first | assumption | omega | (simp only [go_sem] <;> omega)) only [go_sem, f7, hbl7, List.set_set]
  rcases Fnum m7.rd hp with ⟨x8, l8, v8, H8, q8, e8, f8, fr8, r8, hl8, rfl, hb8, hc8⟩ | ⟨e8, H8, f8, fr8⟩
  rotate_left
  · unfold ptr0 at f8
    simp (disch := first | assumption | omega | (simp only [go_sem] <;> omega)) only [go_sem, f8]
    exact .inr ⟨by rw [outP, bindP_some e1, bindP_some e2, bindP_some e3, bindP_some e4, bindP_some e5, bindP_some e6, bindP_some e7, bindP_none e8], H8, rfl, by have := m7.fr.1; have := fr8.1; omega, fun B hB hne => (fr8.2 B (by have := m7.fr.1; omega) hne).trans (m7.fr.2 B hB hne)⟩
  unfold ptr0 at f8
  have m8 := m7.call hA fr8 r8
  obtain ⟨fl8, hfl8, hbl8⟩ := m8.blk
  have hlt8 := m8.lt
  simp only [List.length_cons, List.length_nil, Nat.reduceAdd] at hfl8
  replace hints := hints.keep (H' := H8) fun B hB => fr8.2 B (by have := (hqf' B hB).2; omega) (by have := (hqf' B hB).1; omega)
  replace hqf' : ∀ B, inq qf B → H.length < B ∧ B < H8.length := fun B hB => ⟨(hqf' B hB).1, by have := (hqf' B hB).2; have := fr8.1; omega⟩
  simp (disch := first | assumption | omega | (simp only [go_sem] <;> omega)) only [go_sem, f8, hbl8, List.set_set]
  rcases Fnum m8.rd hp with ⟨x9, l9, v9, H9, q9, e9, f9, fr9, r9, hl9, rfl, hb9, hc9⟩ | ⟨e9, H9, f9, fr9⟩
  rotate_left
  · unfold ptr0 at f9
    simp (disch := first | assumption | omega | (simp only [go_sem] <;> omega)) only [go_sem, f9]
    exact .inr ⟨by rw [outP, bindP_some e1, bindP_some e2, bindP_some e3, bindP_some e4, bindP_some e5, bindP_some e6, bindP_some e7, bindP_some e8, bindP_none e9], H9, rfl, by have := m8.fr.1; have := fr9.1; omega, fun B hB hne => (fr9.2 B (by have := m8.fr.1; omega) hne).trans (m8.fr.2 B hB hne)⟩
  unfold ptr0 at f9
  have m9 := m8.call hA fr9 r9
  obtain ⟨fl9, hfl9, hbl9⟩ := m9.blk
  have hlt9 := m9.lt
  simp only [List.length_cons, List.length_nil, Nat.reduceAdd] at hfl9
  replace hints := hints.keep (H' := H9) fun B hB => fr9.2 B (by have := (hqf' B hB).2; omega) (by have := (hqf' B hB).1; omega)
  replace hqf' : ∀ B, inq qf B → H.length < B ∧ B < H9.length := fun B hB => ⟨(hqf' B hB).1, by have := (hqf' B hB).2; have := fr9.1; omega⟩
  simp (disch := first | assumption | omega | (simp only [go_sem] <;> omega)) only [go_sem, f9, hbl9, List.set_set]
  have m9' := m9.store hA [i64v x1, i64v x2, i64v x3, i64v x4, slv qf x5.length 1, i64v x6, i64v x7, i64v x8, i64v x9] 9 (by simp)
  generalize hG9 : List.set H9 H.length _ = G9 at *
  replace hints := hints.keep (H' := G9) fun B hB => by rw [← hG9]; exact List.getElem?_set_ne (by have := (hqf' B hB).1; omega)
  replace hqf' : ∀ B, inq qf B → H.length < B ∧ B < G9.length := fun B hB => by rw [← hG9, List.length_set]; exact hqf' B hB
  clear hG9
  clear m9
  have m9 := m9'
  clear m9' 
  exact .inl ⟨⟨x1, x2, x3, x4, x5, x6, x7, x8, x9⟩, l9, _, G9, q9, by rw [outP, bindP_some e1, bindP_some e2, bindP_some e3, bindP_some e4, bindP_some e5, bindP_some e6, bindP_some e7, bindP_some e8, bindP_some e9]; rfl, rfl, ⟨by have := m9.fr.1; omega, m9.fr.2⟩, m9.rd, by omega, _, rfl, qf, rfl, hints, fun B hB => ⟨by have := (hqf' B hB).1; omega, (hqf' B hB).2⟩⟩
theorem Fsub {A : Nat} {q : Q} {l : List UInt8} {p : Nat} {H : Heap} (h : RdAt H A q l) (hp : p ≤ A) (hb : l.length ≤ 4294967296) : Reads A l (subP l) (fun x v H' => ∃ c, v = .agg (List.toArray c) ∧ SubE (fun B => H.length ≤ B ∧ B < H'.length) H' x c) H (F 47 #[ptr0 A 1] p H) := by
  rw [F, F_loud (f := 47) (X := X) (cl := cl) rfl rfl rfl Tryz.func47 rfl, Tryz.results47]
  have hA := h.lt
  simp (disch := first | assumption | omega | (simp only [go_sem] <;> omega)) only [go_sem]
  have m0 := Mid.start h 29 [str [], .slice none 0 0, str [], str [], i64v 0, i64v 0, i64v 0, i64v 0, .bool false]
  generalize hH0 : H ++ _ = H0 at *
  clear hH0
  have hl0 : l.length ≤ l.length := Nat.le_refl _
  rcases Ftext m0.rd hp with ⟨x1, l1, v1, H1, q1, e1, f1, fr1, r1, hl1, rfl⟩ | ⟨e1, H1, f1, fr1⟩
  rotate_left
  · unfold ptr0 at f1
    simp (disch := first | assumption | omega | (simp only [go_sem] <;> omega)) only [go_sem, f1]
    exact .inr ⟨by rw [subP, bindP_none e1], H1, rfl, by have := m0.fr.1; have := fr1.1; omega, fun B hB hne => (fr1.2 B (by have := m0.fr.1; omega) hne).trans (m0.fr.2 B hB hne)⟩
  unfold ptr0 at f1
  have m1 := m0.call hA fr1 r1
  obtain ⟨fl1, hfl1, hbl1⟩ := m1.blk
  have hlt1 := m1.lt
  simp only [List.length_cons, List.length_nil, Nat.reduceAdd] at hfl1
  simp (disch := first | assumption | omega | (simp only [go_sem] <;> omega)) only [go_sem, f1, hbl1, List.set_set]
  have m1' := m1.store hA [str x1, .slice none 0 0, str [], str [], i64v 0, i64v 0, i64v 0, i64v 0, .bool false] 9 (by simp)
  generalize hG1 : List.set H1 H.length _ = G1 at *
  clear hG1
  clear m1
  have m1 := m1'
  clear m1' 
  rcases Fsome_int m1.rd hp (by omega) with ⟨x2, l2, v2, H2, q2, e2, f2, fr2, r2, hl2, qf, cf, rfl, hcf, hcfl, hqf, hLf⟩ | ⟨e2, H2, f2, fr2⟩
  rotate_left
  · unfold ptr0 at f2
    simp (disch := first | assumption | omega | (simp only [go_sem] <;> omega)) only [go_sem, f2]
    exact .inr ⟨by rw [subP, bindP_some e1, bindP_none e2], H2, rfl, by have := m1.fr.1; have := fr2.1; omega, fun B hB hne => (fr2.2 B (by have := m1.fr.1; omega) hne).trans (m1.fr.2 B hB hne)⟩
  unfold ptr0 at f2
  have m2 := m1.call hA fr2 r2
  obtain ⟨fl2, hfl2, hbl2⟩ := m2.blk
  have hlt2 := m2.lt
  simp only [List.length_cons, List.length_nil, Nat.reduceAdd] at hfl2
  have hqf' : ∀ B, inq qf B → H.length < B ∧ B < H2.length := fun B hB => ⟨by have := (hqf B hB).1; have := m1.lt; omega, (hqf B hB).2⟩
  have hints : CAt H2 qf (i64s x2) := by
    have : cf = i64s x2 := intE_all hLf
    rw [← this]; exact hcf
  simp (disch := first | assumption | omega | (simp only [go_sem] <;> omega)) only [go_sem, f2, hbl2, List.set_set]
  have m2' := m2.store hA [str x1, slv qf x2.length 1, str [], str [], i64v 0, i64v 0, i64v 0, i64v 0, .bool false] 9 (by simp)
  generalize hG2 : List.set H2 H.length _ = G2 at *
  replace hints := hints.keep (H' := G2) fun B hB => by rw [← hG2]; exact List.getElem?_set_ne (by have := (hqf' B hB).1; omega)
  replace hqf' : ∀ B, inq qf B → H.length < B ∧ B < G2.length := fun B hB => by rw [← hG2, List.length_set]; exact hqf' B hB
  clear hG2
  clear m2
  have m2 := m2'
  clear m2' 
  rcases Ftext m2.rd hp with ⟨x3, l3, v3, H3, q3, e3, f3, fr3, r3, hl3, rfl⟩ | ⟨e3, H3, f3, fr3⟩
  rotate_left
  · unfold ptr0 at f3
    simp (disch := first | assumption | omega | (simp only [go_sem] <;> omega)) only [go_sem, f3]
    exact .inr ⟨by rw [subP, bindP_some e1, bindP_some e2, bindP_none e3], H3, rfl, by have := m2.fr.1; have := fr3.1; omega, fun B hB hne => (fr3.2 B (by have := m2.fr.1; omega) hne).trans (m2.fr.2 B hB hne)⟩
  unfold ptr0 at f3
  have m3 := m2.call hA fr3 r3
  obtain ⟨fl3, hfl3, hbl3⟩ := m3.blk
  have hlt3 := m3.lt
  simp only [List.length_cons, List.length_nil, Nat.reduceAdd] at hfl3
  replace hints := hints.keep (H' := H3) fun B hB => fr3.2 B (by have := (hqf' B hB).2; omega) (by have := (hqf' B hB).1; omega)
  replace hqf' : ∀ B, inq qf B → H.length < B ∧ B < H3.length := fun B hB => ⟨(hqf' B hB).1, by have := (hqf' B hB).2; have := fr3.1; omega⟩
  simp (disch := first | assumption | omega | (simp only [go_sem] <;> omega)) only [go_sem, f3, hbl3, List.set_set]
  rcases Ftext m3.rd hp with ⟨x4, l4, v4, H4, q4, e4, f4, fr4, r4, hl4, rfl⟩ | ⟨e4, H4, f4, fr4⟩
  rotate_left
  · unfold ptr0 at f4
    simp (disch := first | assumption | omega | (simp only [go_sem] <;> omega)) only [go_sem, f4]
    exact .inr ⟨by rw [subP, bindP_some e1, bindP_some e2, bindP_some e3, bindP_none e4], H4, rfl, by have := m3.fr.1; have := fr4.1; omega, fun B hB hne => (fr4.2 B (by have := m3.fr.1; omega) hne).trans (m3.fr.2 B hB hne)⟩
  unfold ptr0 at f4
  have m4 := m3.call hA fr4 r4
  obtain ⟨fl4, hfl4, hbl4⟩ := m4.blk
  have hlt4 := m4.lt
  simp only [List.length_cons, List.length_nil, Nat.reduceAdd] at hfl4
  replace hints := hints.keep (H' := H4) fun B hB => fr4.2 B (by have := (hqf' B hB).2; omega) (by have := (hqf' B hB).1; omega)
  replace hqf' : ∀ B, inq qf B → H.length < B ∧ B < H4.length := fun B hB => ⟨(hqf' B hB).1, by have := (hqf' B hB).2; have := fr4.1; omega⟩
  simp (disch := first | assumption | omega | (simp only [go_sem] <;> omega)) only [go_sem, f4, hbl4, List.set_set]
  have m4' := m4.store hA [str x1, slv qf x2.length 1, str x3, str x4, i64v 0, i64v 0, i64v 0, i64v 0, .bool false] 9 (by simp)
  generalize hG4 : List.set H4 H.length _ = G4 at *
  replace hints := hints.keep (H' := G4) fun B hB => by rw [← hG4]; exact List.getElem?_set_ne (by have := (hqf' B hB).1; omega)
  replace hqf' : ∀ B, inq qf B → H.length < B ∧ B < G4.length := fun B hB => by rw [← hG4, List.length_set]; exact hqf' B hB
  clear hG4
  clear m4
  have m4 := m4'
  clear m4' 
  rcases Fnum m4.rd hp with ⟨x5, l5, v5, H5, q5, e5, f5, fr5, r5, hl5, rfl, hb5, hc5⟩ | ⟨e5, H5, f5, fr5⟩
  rotate_left
  · unfold ptr0 at f5
    simp (disch := first | assumption | omega | (simp only [go_sem] <;> omega)) only [go_sem, f5]
    exact .inr ⟨by rw [subP, bindP_some e1, bindP_some e2, bindP_some e3, bindP_some e4, bindP_none e5], H5, rfl, by have := m4.fr.1; have := fr5.1; omega, fun B hB hne => (fr5.2 B (by have := m4.fr.1; omega) hne).trans (m4.fr.2 B hB hne)⟩
  unfold ptr0 at f5
  have m5 := m4.call hA fr5 r5
  obtain ⟨fl5, hfl5, hbl5⟩ := m5.blk
  have hlt5 := m5.lt
  simp only [List.length_cons, List.length_nil, Nat.reduceAdd] at hfl5
  replace hints := hints.keep (H' := H5) fun B hB => fr5.2 B (by have := (hqf' B hB).2; omega) (by have := (hqf' B hB).1; omega)
  replace hqf' : ∀ B, inq qf B → H.length < B ∧ B < H5.length := fun B hB => ⟨(hqf' B hB).1, by have := (hqf' B hB).2; have := fr5.1; omega⟩
  simp (disch := first | assumption | omega | (simp only [go_sem] <;> omega)) only [go_sem, f5, hbl5, List.set_set]
  rcases Fnum m5.rd hp with ⟨x6, l6, v6, H6, q6, e6, f6, fr6, r6, hl6, rfl, hb6, hc6⟩ | ⟨e6, H6, f6, fr6⟩
  rotate_left
  · unfold ptr0 at f6
    simp (disch := first | assumption | omega | (simp only [go_sem] <;> omega)) only [go_sem, f6]
    exact .inr ⟨by rw [subP, bindP_some e1, bindP_some e2, bindP_some e3, bindP_some e4, bindP_some e5, bindP_none e6], H6, rfl, by have := m5.fr.1; have := fr6.1; omega, fun B hB hne => (fr6.2 B (by have := m5.fr.1; omega) hne).trans (m5.fr.2 B hB hne)⟩
  unfold ptr0 at f6
  have m6 := m5.call hA fr6 r6
  obtain ⟨fl6, hfl6, hbl6⟩ := m6.blk
  have hlt6 := m6.lt
  simp only [List.length_cons, List.length_nil, Nat.reduceAdd] at hfl6
  replace hints := hints.keep (H' := H6) fun B hB => fr6.2 B (by have := (hqf' B hB).2; omega) (by have := (hqf' B hB).1; omega)
  replace hqf' : ∀ B, inq qf B → H.length < B ∧ B < H6.length := fun B hB => ⟨(hqf' B hB).1, by have := (hqf' B hB).2; have := fr6.1; omega⟩
  simp (disch := first | assumption | omega | (simp only [go_sem] <;> omega)) only [go_sem, f6, hbl6, List.set_set]
  rcases Fnum m6.rd hp with ⟨x7, l7, v7, H7, q7, e7, f7, fr7, r7, hl7, rfl, hb7, hc7⟩ | ⟨e7, H7, f7, fr7⟩
  rotate_left
  · unfold ptr0 at f7
    simp (disch := first | assumption | omega | (simp only [go_sem] <;> omega)) only [go_sem, f7]
    exact .inr ⟨by rw [subP, bindP_some e1, bindP_some e2, bindP_some e3, bindP_some e4, bindP_some e5, bindP_some e6, bindP_none e7], H7, rfl, by have := m6.fr.1; have := fr7.1; omega, fun B hB hne => (fr7.2 B (by have := m6.fr.1; omega) hne).trans (m6.fr.2 B hB hne)⟩
  unfold ptr0 at f7
  have m7 := m6.call hA fr7 r7
  obtain ⟨fl7, hfl7, hbl7⟩ := m7.blk
  have hlt7 := m7.lt
  simp only [List.length_cons, List.length_nil, Nat.reduceAdd] at hfl7
  replace hints := hints.keep (H' := H7) fun B hB => fr7.2 B (by have := (hqf' B hB).2; omega) (by have := (hqf' B hB).1; omega)
  replace hqf' : ∀ B, inq qf B → H.length < B ∧ B < H7.length := fun B hB => ⟨(hqf' B hB).1, by have := (hqf' B hB).2; have := fr7.1; omega⟩
  simp (disch := first | assumption | omega | (simp only [go_sem] <;> omega)) only [go_sem, f7, hbl7, List.set_set]
  rcases Fnum m7.rd hp with ⟨x8, l8, v8, H8, q8, e8, f8, fr8, r8, hl8, rfl, hb8, hc8⟩ | ⟨e8, H8, f8, fr8⟩
  rotate_left
  · unfold ptr0 at f8
    simp (disch := first | assumption | omega | (simp only [go_sem] <;> omega)) only [go_sem, f8]
    exact .inr ⟨by rw [subP, bindP_some e1, bindP_some e2, bindP_some e3, bindP_some e4, bindP_some e5, bindP_some e6, bindP_some e7, bindP_none e8], H8, rfl, by have := m7.fr.1; have := fr8.1; omega, fun B hB hne => (fr8.2 B (by have := m7.fr.1; omega) hne).trans (m7.fr.2 B hB hne)⟩
  unfold ptr0 at f8
  have m8 := m7.call hA fr8 r8
  obtain ⟨fl8, hfl8, hbl8⟩ := m8.blk
  have hlt8 := m8.lt
  simp only [List.length_cons, List.length_nil, Nat.reduceAdd] at hfl8
  replace hints := hints.keep (H' := H8) fun B hB => fr8.2 B (by have := (hqf' B hB).2; omega) (by have := (hqf' B hB).1; omega)
  replace hqf' : ∀ B, inq qf B → H.length < B ∧ B < H8.length := fun B hB => ⟨(hqf' B hB).1, by have := (hqf' B hB).2; have := fr8.1; omega⟩
  simp (disch := first | assumption | omega | (simp only [go_sem] <;> omega)) only [go_sem, f8, hbl8, List.set_set]
  have m8' := m8.store hA [str x1, slv qf x2.length 1, str x3, str x4, i64v x5, i64v x6, i64v x7, i64v x8, .bool false] 9 (by simp)
  generalize hG8 : List.set H8 H.length _ = G8 at *
  replace hints := hints.keep (H' := G8) fun B hB => by rw [← hG8]; exact List.getElem?_set_ne (by have := (hqf' B hB).1; omega)
  replace hqf' : ∀ B, inq qf B → H.length < B ∧ B < G8.length := fun B hB => by rw [← hG8, List.length_set]; exact hqf' B hB
  clear hG8
  clear m8
  have m8 := m8'
  clear m8' 
  have hgl8 := m8.rd.lt
  obtain ⟨fl9, hfl9, hbl9⟩ := m8.blk
  have hlt9 := m8.lt
  simp only [List.length_cons, List.length_nil, Nat.reduceAdd] at hfl9
  have hPn : ∀ r, offP l8 = r → subP l = r.bind fun s => some (⟨x1, x2, x3, x4, x5, x6, x7, x8, s.1⟩, s.2) := fun r hr => by
    rw [subP, bindP_some e1, bindP_some e2, bindP_some e3, bindP_some e4, bindP_some e5, bindP_some e6, bindP_some e7, bindP_some e8]
    rw [← hr]; rfl
  cases hl8' : l8 with
  | nil =>
    have f9 := Ftake_bad (p := p) (n := 1) m8.rd (by rw [hl8']; simp)
    unfold ptr0 at f9
    simp (disch := first | assumption | omega | (simp only [go_sem] <;> omega)) only [go_sem, f9]
    exact .inr ⟨hPn none (by rw [hl8']; rfl), G8, rfl, by have := m8.fr.1; omega, m8.fr.2⟩
  | cons c rest =>
    obtain ⟨B9, f9, r9⟩ := Ftake_ok (p := p) (n := 1) m8.rd hp (by rw [hl8']; simp; omega)
    unfold ptr0 at f9
    have hq8 : okq q8 1 := fun hq => by have := m8.rd.okq hq; rw [hl8'] at this; simp at this
    have hc9 : CAt (G8.set A B9) q8 (u8s l8) := m8.rd.bts.keep fun C hC => List.getElem?_set_ne (fun e => by have := m8.rd.ne C hC; omega)
    have hld := ld_ptq (P := Tryz.prog) (T := 5) sz5 ag5 un5 hc9 (o := 0) (v := u8v c) (by rw [hl8']; rfl)
    have m9 := m8.call hA (Fr.set A G8 B9) r9
    replace hints := hints.keep (H' := G8.set A B9) fun B hB => List.getElem?_set_ne (by have := (hqf' B hB).1; omega)
    replace hqf' : ∀ B, inq qf B → H.length < B ∧ B < (G8.set A B9).length := fun B hB => by rw [List.length_set]; exact hqf' B hB
    generalize G8.set A B9 = G9 at *
    obtain ⟨fl10, hfl10, hbl10⟩ := m9.blk
    have hlt10 := m9.lt
    simp only [List.length_cons, List.length_nil, Nat.reduceAdd] at hfl10
    have hrest : List.drop (Int.toNat 1) l8 = rest := by rw [hl8']; rfl
    rw [hrest] at m9
    by_cases hc : (1 : Int) < c.toNat
    · simp (disch := first | assumption | omega | (simp only [go_sem] <;> omega)) only [go_sem, f9, hld, hc]
      refine .inr ⟨hPn none (by rw [hl8', offP, if_neg (by omega)]), G9, rfl, by have := m9.fr.1; omega, m9.fr.2⟩
    · simp (disch := first | assumption | omega | (simp only [go_sem] <;> omega)) only [go_sem, f9, hld, hc, hbl10, List.set_set]
      have m10 := m9.store hA [str x1, slv qf x2.length 1, str x3, str x4, i64v x5, i64v x6, i64v x7, i64v x8, .bool (decide ((c.toNat : Int) = 1))] 9 (by simp)
      replace hints := hints.keep (H' := G9.set H.length ⟨0, 29, [str x1, slv qf x2.length 1, str x3, str x4, i64v x5, i64v x6, i64v x7, i64v x8, .bool (decide ((c.toNat : Int) = 1))].toArray, 9, false, []⟩) fun B hB => List.getElem?_set_ne (by have := (hqf' B hB).1; omega)
      have hdec : decide ((c.toNat : Int) = 1) = decide (c.toNat = 1) := by rw [decide_eq_decide]; omega
      refine .inl ⟨⟨x1, x2, x3, x4, x5, x6, x7, x8, decide (c.toNat = 1)⟩, rest, _, _, _, hPn (some (decide (c.toNat = 1), rest)) (by rw [hl8', offP, if_pos (by omega)]), rfl, ⟨by have := m10.fr.1; omega, m10.fr.2⟩, m10.rd, by rw [hl8'] at hl8; simp at hl8; omega, _, rfl, qf, by rw [hdec]; rfl, hints, fun B hB => ⟨by have := (hqf' B hB).1; omega, by rw [List.length_set]; exact (hqf' B hB).2⟩⟩
theorem neq_wrong : binV Tryz.prog true .neq 20 (.iface 89 (.agg #[])) .nilIface = some (.bool true) := by kernel_rfl
theorem neq_nil : binV Tryz.prog true .neq 20 .nilIface .nilIface = some (.bool false) := by kernel_rfl
theorem as_wrong : asrtV Tryz.prog (.iface 89 (.agg #[])) 89 true = some (.tuple #[.agg #[], .bool true]) := by kernel_rfl
theorem st_wrong (H : Heap) (p x : Nat) : stA Tryz.prog H p 89 (.pointer (some ⟨x, 0, some 0⟩)) (.agg #[]) = put H p x 0 0 H[x]? [] := st_agg sz89 x 0 0 #[] rfl rfl
theorem Get1_ok {A B : Value} {p : Nat} {H : Heap} : dfnA Tryz.prog cl X (limR Tryz.prog cl X) 45 #[A, B] none p H = some (.returned (.tuple #[]), none, H) := by
  rw [dfnA_rec (f := 45) (X := X) (cl := cl) (d1 := 5) (d2 := 2) rfl (by decide) Tryz.func45 rfl (by kernel_rfl) (fun _ => rfl) (by kernel_rfl), Tryz.results45]
  simp (disch := first | assumption | omega | (simp only [go_sem] <;> omega)) only [go_sem, recA, neq_nil]
theorem Get1_bad {A B : Nat} {p : Nat} {H : Heap} {cs : List Value} {v : Value} {T T' : TypeId} {fl fl' : Nat} (hA : H[A]? = some ⟨0, T, cs.toArray, fl, false, []⟩) (hcs : cs.length = 5) (hfl : fl ≤ 5) (hB : H[B]? = some ⟨0, T', #[v], fl', false, []⟩) (hfl' : fl' ≤ 1) (hp : p ≤ A ∧ p ≤ B) (hne : A ≠ B) :
    ∃ H', dfnA Tryz.prog cl X (limR Tryz.prog cl X) 45 #[ptr0 A 5, ptr0 B 1] (some wrongP) p H = some (.returned (.tuple #[]), some [{ v := .iface 89 (.agg #[]), recovered := true }], H') ∧
      H'[A]? = some ⟨0, T, #[.slice none 0 0, .slice none 0 0, i64v 0, .slice none 0 0, i64v 0], 5, false, []⟩ ∧ H'[B]? = some ⟨0, T', #[i64v 2], 1, false, []⟩ ∧ H.length ≤ H'.length ∧ ∀ C, C < H.length → C ≠ A → C ≠ B → H'[C]? = H[C]? := by
  rw [dfnA_rec (f := 45) (X := X) (cl := cl) (d1 := 5) (d2 := 2) rfl (by decide) Tryz.func45 rfl (by kernel_rfl) (fun _ => rfl) (by kernel_rfl), Tryz.results45]
  have hAl := (List.getElem?_eq_some_iff.1 hA).1
  have hBl := (List.getElem?_eq_some_iff.1 hB).1
  match cs, hcs with
  | [c1, c2, c3, c4, c5], _ =>
    have hput : put (H ++ [⟨0, 89, #[], 0, false, []⟩]) p H.length 0 0 (some ⟨0, 89, #[], 0, false, []⟩) [] = some (H ++ [⟨0, 89, #[], 0, false, []⟩]) := by
      rw [put_some p H.length 0 0 89 #[] 0 [] [] ⟨by omega, Nat.le_refl _, rfl, Nat.le_refl _⟩]
      simp only [putAll_nil]
      rw [set_same (by simp)]
    have hset : ∀ (l : Heap) (x : Blk), (l.set A x)[B]? = l[B]? := fun l x => List.getElem?_set_ne hne
    simp (disch := first | assumption | omega | (simp only [go_sem] <;> omega)) only [go_sem, recA, wrongP, hput, hset, List.getElem?_concat_length, neq_wrong, as_wrong, st_wrong, ev_assert, List.getElem?_append_left, hA, hB]
    refine ⟨_, rfl, ?_, ?_, ?_, ?_⟩
    · rw [List.getElem?_set_ne (Ne.symm hne), List.getElem?_set_self (by simp; omega)]
    · rw [List.getElem?_set_self (by simp; omega)]
    · simp
    · intro C h1 h2 h3
      rw [List.getElem?_set_ne (Ne.symm h3), List.getElem?_set_ne (Ne.symm h2), List.getElem?_append_left h1]
theorem Get_bad {N p : Nat} {H : Heap} {cs : List Value} {v : Value} {T T' : TypeId} {fl fl' : Nat} {t : Nat → Value} (hA : H[N]? = some ⟨0, T, cs.toArray, fl, false, []⟩) (hcs : cs.length = 5) (hfl : fl ≤ 5) (hB : H[N + 1]? = some ⟨0, T', #[v], fl', false, []⟩) (hfl' : fl' ≤ 1) (hp : p ≤ N)
    (h2 : t 2 = ptr0 N 5) (h3 : t 3 = ptr0 (N + 1) 1) :
    ∃ H', leaveA (dfnA Tryz.prog cl X (limR Tryz.prog cl X)) Tryz.prog #[.cell 2 26, .cell 3 36] p t [{ target := .fn (.func 45) #[ptr0 N 5, ptr0 (N + 1) 1], args := #[] }] (some wrongP) H =
        some (.returned (.tuple #[.agg #[.slice none 0 0, .slice none 0 0, i64v 0, .slice none 0 0, i64v 0], i64v 2]), H') ∧ H.length ≤ H'.length ∧ ∀ C, C < H.length → C ≠ N → C ≠ N + 1 → H'[C]? = H[C]? := by
  obtain ⟨H', e, k1, k2, k3, k4⟩ := Get1_bad hA hcs hfl hB hfl' ⟨hp, by omega⟩ (by omega)
  refine ⟨H', ?_, k3, k4⟩
  rw [leaveA_ok (args := #[]) (cap := #[ptr0 N 5, ptr0 (N + 1) 1]) e]
  show leaveA _ _ _ _ _ _ none _ = _
  rw [leaveA_nil, resOf_cells]
  simp (disch := first | assumption | omega | (simp only [go_sem] <;> omega)) only [go_sem, h2, h3, k1, k2]
theorem Get_ok {N p : Nat} {H : Heap} {cs : List Value} {v : Value} {T T' : TypeId} {fl fl' : Nat} {t : Nat → Value} (hA : H[N]? = some ⟨0, T, cs.toArray, fl, false, []⟩) (hcs : cs.length = 5) (hfl : fl ≤ 5) (hB : H[N + 1]? = some ⟨0, T', #[v], fl', false, []⟩) (hfl' : fl' ≤ 1)
    (h2 : t 2 = ptr0 N 5) (h3 : t 3 = ptr0 (N + 1) 1) :
    leaveA (dfnA Tryz.prog cl X (limR Tryz.prog cl X)) Tryz.prog #[.cell 2 26, .cell 3 36] p t [{ target := .fn (.func 45) #[ptr0 N 5, ptr0 (N + 1) 1], args := #[] }] none H =
        some (.returned (.tuple #[.agg cs.toArray, v]), H) := by
  rw [leaveA_ok (args := #[]) (cap := #[ptr0 N 5, ptr0 (N + 1) 1]) Get1_ok]
  show leaveA _ _ _ _ _ _ none _ = _
  rw [leaveA_nil, resOf_cells]
  simp (disch := first | assumption | omega | (simp only [go_sem] <;> omega)) only [go_sem, h2, h3, hA, hB]
theorem andThen_panic (ch : List PanicEntry) (s : St) (f : St → Option (Exit × St)) : andThen (some (.panic ch, s)) f = some (.panic ch, s) := rfl
theorem ListAt.move {α : Type} {E : (Nat → Prop) → Heap → α → List Value → Prop} {s : Nat} {O O' : Nat → Prop} {H H' : Heap} (hE : ∀ {x : α} {c : List Value}, E O H x c → E O' H' x c) (h : ∀ B, O B → O' B ∧ H'[B]? = H[B]?) {xs : List α} {v : Value} : ListAt E s O H xs v → ListAt E s O' H' xs v :=
  fun ⟨q, cs, e, k1, k2, k3, k4⟩ => ⟨q, cs, e, k1.keep fun B hB => (h B (k3 B hB)).2, k2, fun B hB => (h B (k3 B hB)).1, k4.mono fun _ _ => hE⟩
def StateAt (O : Nat → Prop) (H : Heap) (s : StateL) (v : Value) : Prop := ∃ v1 v2 v3, v = .agg #[v1, v2, i64v s.seq, v3, i64v s.now] ∧ ListAt SubE 9 O H s.subs v1 ∧ ListAt ItemE 7 O H s.items v2 ∧ ListAt OutE 9 O H s.out v3
theorem StateAt.move {O O' : Nat → Prop} {H H' : Heap} (h : ∀ B, O B → O' B ∧ H'[B]? = H[B]?) {s : StateL} {v : Value} : StateAt O H s v → StateAt O' H' s v :=
  fun ⟨v1, v2, v3, e, k1, k2, k3⟩ => ⟨v1, v2, v3, e, k1.move (SubE.move h) h, k2.move (ItemE.move h) h, k3.move (OutE.move h) h⟩
def zeroS : Value := .agg #[.slice none 0 0, .slice none 0 0, i64v 0, .slice none 0 0, i64v 0]
def GetR (H : Heap) (l : List UInt8) (call : Option (Ending × Heap)) : Prop := ∃ v e H', call = some (.returned (.tuple #[v, i64v e]), H') ∧ H.length ≤ H'.length ∧ (∀ B, B < H.length → H'[B]? = H[B]?) ∧
  ((∃ s, getL l = some s ∧ e = 0 ∧ StateAt (fun B => H.length ≤ B ∧ B < H'.length) H' s v) ∨ (getL l = none ∧ e = 2 ∧ v = zeroS))
structure GW (H0 H' : Heap) (cs : List Value) : Prop where
  s : ∃ fl, fl ≤ 5 ∧ H'[H0.length]? = some ⟨0, 26, cs.toArray, fl, false, []⟩
  e : ∃ fl, fl ≤ 1 ∧ H'[H0.length + 1]? = some ⟨0, 36, #[i64v 0], fl, false, []⟩
  fr : H0.length + 3 ≤ H'.length ∧ ∀ B, B < H0.length → H'[B]? = H0[B]?
structure GMid (H0 H' : Heap) (q : Q) (l : List UInt8) (cs : List Value) : Prop extends GW H0 H' cs where
  rd : RdAt H' (H0.length + 2) q l
theorem GW.call {H0 H1 H2 : Heap} {cs : List Value} (h : GW H0 H1 cs) (hf : Fr (H0.length + 2) H1 H2) : GW H0 H2 cs where
  s := by obtain ⟨fl, h1, h2⟩ := h.s; exact ⟨fl, h1, (hf.2 _ (by have := h.fr.1; omega) (by omega)).trans h2⟩
  e := by obtain ⟨fl, h1, h2⟩ := h.e; exact ⟨fl, h1, (hf.2 _ (by have := h.fr.1; omega) (by omega)).trans h2⟩
  fr := ⟨Nat.le_trans h.fr.1 hf.1, fun B hB => (hf.2 B (by have := h.fr.1; omega) (by omega)).trans (h.fr.2 B hB)⟩
theorem Get_badR {H0 Hj : Heap} {l : List UInt8} {cs : List Value} {p : Nat} (m : GW H0 Hj cs) (h : stateP l = none ∨ ∃ s c r, stateP l = some (s, c :: r)) (hp : p ≤ H0.length) (hcs : cs.length = 5) {t : Nat → Value} (h2 : t 2 = ptr0 H0.length 5) (h3 : t 3 = ptr0 (H0.length + 1) 1) :
    GetR H0 l (leaveA (dfnA Tryz.prog cl X (limR Tryz.prog cl X)) Tryz.prog #[.cell 2 26, .cell 3 36] p t [{ target := .fn (.func 45) #[ptr0 H0.length 5, ptr0 (H0.length + 1) 1], args := #[] }] (some wrongP) Hj) := by
  obtain ⟨fs, hfs, hs⟩ := m.s
  obtain ⟨fe, hfe, he⟩ := m.e
  obtain ⟨H', g1, g2, g3⟩ := Get_bad (p := p) hs hcs hfs he hfe hp h2 h3
  have hfr := m.fr
  refine ⟨_, _, H', g1, by omega, fun B hB => (g3 B (by omega) (by omega) (by omega)).trans (hfr.2 B hB), .inr ⟨?_, rfl, rfl⟩⟩
  rcases h with h | ⟨s, c, r, h⟩ <;> (unfold getL; rw [h])
theorem Get_okR {H0 Hj : Heap} {l : List UInt8} {cs : List Value} {p : Nat} {s : StateL} (m : GW H0 Hj cs) (h : stateP l = some (s, [])) (hp : p ≤ H0.length) (hcs : cs.length = 5) (hs : StateAt (fun B => H0.length ≤ B ∧ B < Hj.length) Hj s (.agg cs.toArray)) {t : Nat → Value} (h2 : t 2 = ptr0 H0.length 5) (h3 : t 3 = ptr0 (H0.length + 1) 1) :
    GetR H0 l (leaveA (dfnA Tryz.prog cl X (limR Tryz.prog cl X)) Tryz.prog #[.cell 2 26, .cell 3 36] p t [{ target := .fn (.func 45) #[ptr0 H0.length 5, ptr0 (H0.length + 1) 1], args := #[] }] none Hj) := by
  obtain ⟨fs, hfs, hss⟩ := m.s
  obtain ⟨fe, hfe, he⟩ := m.e
  have hfr := m.fr
  refine ⟨_, 0, Hj, Get_ok (p := p) hss hcs hfs he hfe h2 h3, by omega, fun B hB => hfr.2 B hB, .inl ⟨s, ?_, rfl, hs⟩⟩
  unfold getL; rw [h]
theorem GMid.call {H0 H1 H2 : Heap} {q q' : Q} {l l' : List UInt8} {cs : List Value} (h : GMid H0 H1 q l cs) (hf : Fr (H0.length + 2) H1 H2) (hr : RdAt H2 (H0.length + 2) q' l') : GMid H0 H2 q' l' cs where
  toGW := h.toGW.call hf
  rd := hr
theorem GW.storeE {H0 H1 : Heap} {cs : List Value} (h : GW H0 H1 cs) : GW H0 (H1.set (H0.length + 1) ⟨0, 36, #[i64v 0], 1, false, []⟩) cs where
  s := by obtain ⟨fl, h1, h2⟩ := h.s; exact ⟨fl, h1, (List.getElem?_set_ne (by omega)).trans h2⟩
  e := ⟨1, Nat.le_refl _, List.getElem?_set_self (by have := h.fr.1; omega)⟩
  fr := ⟨by rw [List.length_set]; exact h.fr.1, fun B hB => by rw [List.getElem?_set_ne (by omega)]; exact h.fr.2 B hB⟩
theorem GMid.store {H0 H1 : Heap} {q : Q} {l : List UInt8} {cs : List Value} (h : GMid H0 H1 q l cs) (cs' : List Value) : GMid H0 (H1.set H0.length ⟨0, 26, cs'.toArray, 5, false, []⟩) q l cs' where
  rd := ⟨by obtain ⟨e, fl, h1, h2⟩ := h.rd.cell; exact ⟨e, fl, h1, (List.getElem?_set_ne (by omega)).trans h2⟩, h.rd.bts.keep fun B hB => List.getElem?_set_ne (by have := h.rd.ne B hB; omega), h.rd.ne⟩
  s := ⟨5, Nat.le_refl _, List.getElem?_set_self (by have := h.fr.1; omega)⟩
  e := by obtain ⟨fl, h1, h2⟩ := h.e; exact ⟨fl, h1, (List.getElem?_set_ne (by omega)).trans h2⟩
  fr := ⟨by rw [List.length_set]; exact h.fr.1, fun B hB => by rw [List.getElem?_set_ne (by omega)]; exact h.fr.2 B hB⟩
theorem FGet {q : Q} {l : List UInt8} {p : Nat} {H : Heap} (hq : CAt H q (u8s l)) (hlt : ∀ B, inq q B → B < H.length) (hp : p ≤ H.length) (hb : l.length ≤ 4294967296) : GetR H l (F 17 #[slv q l.length 1] p H) := by
  rw [F, F_def (f := 17) (X := X) (cl := cl) rfl rfl rfl Tryz.func17 rfl, Tryz.results17]
  simp (disch := first | assumption | omega | (simp only [go_sem] <;> omega) | fail) only [go_sem, andThen_panic, List.append_assoc, List.cons_append, List.nil_append, List.length_append, List.length_cons, List.length_nil]
  have m0 : GMid H (H ++ [⟨0, 26, #[.slice none 0 0, .slice none 0 0, i64v 0, .slice none 0 0, i64v 0], 0, false, []⟩, ⟨0, 36, #[i64v 0], 0, false, []⟩, ⟨0, 92, #[slv q l.length 1], 0, false, []⟩]) q l [.slice none 0 0, .slice none 0 0, i64v 0, .slice none 0 0, i64v 0] := by
    refine ⟨⟨⟨0, by omega, by simp⟩, ⟨0, by omega, by simp⟩, by simp, fun B hB => List.getElem?_append_left hB⟩, ⟨⟨92, 0, Nat.zero_le 1, by simp⟩, hq.keep fun B hB => List.getElem?_append_left (hlt B hB), fun B hB => by have := hlt B hB; omega⟩⟩
  generalize hZ0 : H ++ _ = Z0 at *
  clear hZ0
  rcases Fsome_sub (p := p) m0.rd (by omega) (by omega) (fun H' q' l' hr hl => Fsub hr (by omega) (by omega)) with ⟨x1, l1, v1, H1, q1, e1, f1, fr1, r1, hl1, qq1, cc1, rfl, hcat1, hcl1, hqq1, hLC1⟩ | ⟨e1, H1, f1, fr1⟩
  rotate_left
  · unfold ptr0 at f1
    simp (disch := first | assumption | omega | (simp only [go_sem] <;> omega) | fail) only [go_sem, andThen_panic, f1]
    refine Get_badR (m0.toGW.call fr1) (.inl (by rw [stateP, bindP_none e1])) hp rfl ?_ ?_ <;> simp only [go_sem]
  unfold ptr0 at f1
  have m1' := m0.call fr1 r1
  obtain ⟨fs1, hfs1, hs1⟩ := m1'.s
  have hN1 : H.length < H1.length := by have := m1'.fr.1; omega
  have k1 : ListAt SubE 9 (fun B => H.length + 3 ≤ B ∧ B < H1.length) H1 x1 (slv qq1 x1.length 9) :=
    ListAt.move (O := fun B => Z0.length ≤ B ∧ B < H1.length) (SubE.move fun B hB => ⟨⟨by have := m0.fr.1; have := hB.1; omega, hB.2⟩, rfl⟩) (fun B hB => ⟨⟨by have := m0.fr.1; have := hB.1; omega, hB.2⟩, rfl⟩) ⟨qq1, cc1, rfl, hcat1, hcl1, hqq1, hLC1⟩
  have m1 := m1'.store [slv qq1 x1.length 9, .slice none 0 0, i64v 0, .slice none 0 0, i64v 0]
  have hset1 : ∀ B, B ≠ H.length → (H1.set H.length ⟨0, 26, [slv qq1 x1.length 9, .slice none 0 0, i64v 0, .slice none 0 0, i64v 0].toArray, 5, false, []⟩)[B]? = H1[B]? := fun B hB => List.getElem?_set_ne (Ne.symm hB)
  have hlen1 : (H1.set H.length ⟨0, 26, [slv qq1 x1.length 9, .slice none 0 0, i64v 0, .slice none 0 0, i64v 0].toArray, 5, false, []⟩).length = H1.length := List.length_set
  replace k1 : ListAt SubE 9 (fun B => H.length + 3 ≤ B ∧ B < (H1.set H.length ⟨0, 26, [slv qq1 x1.length 9, .slice none 0 0, i64v 0, .slice none 0 0, i64v 0].toArray, 5, false, []⟩).length) (H1.set H.length ⟨0, 26, [slv qq1 x1.length 9, .slice none 0 0, i64v 0, .slice none 0 0, i64v 0].toArray, 5, false, []⟩) x1 (slv qq1 x1.length 9) := by
    rw [hlen1]
    exact k1.move (SubE.move fun B hB => ⟨hB, hset1 B (by have := hB.1; omega)⟩) fun B hB => ⟨hB, hset1 B (by have := hB.1; omega)⟩
  simp (disch := first | assumption | omega | (simp only [go_sem] <;> omega) | fail) only [go_sem, andThen_panic, f1, hs1, List.set_set]
  clear hs1 hfs1 hlen1 hset1
  generalize hGG : List.set H1 H.length _ = G1 at *
  clear hGG m1' 
  rcases Fsome_item (p := p) m1.rd (by omega) (by omega) (fun H' q' l' hr hl => Fitem hr (by omega) (by omega)) with ⟨x2, l2, v2, H2, q2, e2, f2, fr2, r2, hl2, qq2, cc2, rfl, hcat2, hcl2, hqq2, hLC2⟩ | ⟨e2, H2, f2, fr2⟩
  rotate_left
  · unfold ptr0 at f2
    simp (disch := first | assumption | omega | (simp only [go_sem] <;> omega) | fail) only [go_sem, andThen_panic, f2]
    refine Get_badR (m1.toGW.call fr2) (.inl (by rw [stateP, bindP_some e1, bindP_none e2])) hp rfl ?_ ?_ <;> simp only [go_sem]
  unfold ptr0 at f2
  have m2' := m1.call fr2 r2
  obtain ⟨fs2, hfs2, hs2⟩ := m2'.s
  have hN2 : H.length < H2.length := by have := m2'.fr.1; omega
  replace k1 : ListAt SubE 9 (fun B => H.length + 3 ≤ B ∧ B < H2.length) H2 x1 (slv qq1 x1.length 9) := k1.move (SubE.move fun B hB => ⟨⟨hB.1, Nat.lt_of_lt_of_le hB.2 fr2.1⟩, fr2.2 B hB.2 (by have := hB.1; omega)⟩) fun B hB => ⟨⟨hB.1, Nat.lt_of_lt_of_le hB.2 fr2.1⟩, fr2.2 B hB.2 (by have := hB.1; omega)⟩
  have k2 : ListAt ItemE 7 (fun B => H.length + 3 ≤ B ∧ B < H2.length) H2 x2 (slv qq2 x2.length 7) :=
    ListAt.move (O := fun B => G1.length ≤ B ∧ B < H2.length) (ItemE.move fun B hB => ⟨⟨by have := m1.fr.1; have := hB.1; omega, hB.2⟩, rfl⟩) (fun B hB => ⟨⟨by have := m1.fr.1; have := hB.1; omega, hB.2⟩, rfl⟩) ⟨qq2, cc2, rfl, hcat2, hcl2, hqq2, hLC2⟩
  have m2 := m2'.store [slv qq1 x1.length 9, slv qq2 x2.length 7, i64v 0, .slice none 0 0, i64v 0]
  have hset2 : ∀ B, B ≠ H.length → (H2.set H.length ⟨0, 26, [slv qq1 x1.length 9, slv qq2 x2.length 7, i64v 0, .slice none 0 0, i64v 0].toArray, 5, false, []⟩)[B]? = H2[B]? := fun B hB => List.getElem?_set_ne (Ne.symm hB)
  have hlen2 : (H2.set H.length ⟨0, 26, [slv qq1 x1.length 9, slv qq2 x2.length 7, i64v 0, .slice none 0 0, i64v 0].toArray, 5, false, []⟩).length = H2.length := List.length_set
  replace k1 : ListAt SubE 9 (fun B => H.length + 3 ≤ B ∧ B < (H2.set H.length ⟨0, 26, [slv qq1 x1.length 9, slv qq2 x2.length 7, i64v 0, .slice none 0 0, i64v 0].toArray, 5, false, []⟩).length) (H2.set H.length ⟨0, 26, [slv qq1 x1.length 9, slv qq2 x2.length 7, i64v 0, .slice none 0 0, i64v 0].toArray, 5, false, []⟩) x1 (slv qq1 x1.length 9) := by
    rw [hlen2]
    exact k1.move (SubE.move fun B hB => ⟨hB, hset2 B (by have := hB.1; omega)⟩) fun B hB => ⟨hB, hset2 B (by have := hB.1; omega)⟩
  replace k2 : ListAt ItemE 7 (fun B => H.length + 3 ≤ B ∧ B < (H2.set H.length ⟨0, 26, [slv qq1 x1.length 9, slv qq2 x2.length 7, i64v 0, .slice none 0 0, i64v 0].toArray, 5, false, []⟩).length) (H2.set H.length ⟨0, 26, [slv qq1 x1.length 9, slv qq2 x2.length 7, i64v 0, .slice none 0 0, i64v 0].toArray, 5, false, []⟩) x2 (slv qq2 x2.length 7) := by
    rw [hlen2]
    exact k2.move (ItemE.move fun B hB => ⟨hB, hset2 B (by have := hB.1; omega)⟩) fun B hB => ⟨hB, hset2 B (by have := hB.1; omega)⟩
  simp (disch := first | assumption | omega | (simp only [go_sem] <;> omega) | fail) only [go_sem, andThen_panic, f2, hs2, List.set_set]
  clear hs2 hfs2 hlen2 hset2
  generalize hGG : List.set H2 H.length _ = G2 at *
  clear hGG m2' 
  rcases Fnum (p := p) m2.rd (by omega) with ⟨x3, l3, v3, H3, q3, e3, f3, fr3, r3, hl3, rfl, hb3, hc3⟩ | ⟨e3, H3, f3, fr3⟩
  rotate_left
  · unfold ptr0 at f3
    simp (disch := first | assumption | omega | (simp only [go_sem] <;> omega) | fail) only [go_sem, andThen_panic, f3]
    refine Get_badR (m2.toGW.call fr3) (.inl (by rw [stateP, bindP_some e1, bindP_some e2, bindP_none e3])) hp rfl ?_ ?_ <;> simp only [go_sem]
  unfold ptr0 at f3
  have m3' := m2.call fr3 r3
  obtain ⟨fs3, hfs3, hs3⟩ := m3'.s
  have hN3 : H.length < H3.length := by have := m3'.fr.1; omega
  replace k1 : ListAt SubE 9 (fun B => H.length + 3 ≤ B ∧ B < H3.length) H3 x1 (slv qq1 x1.length 9) := k1.move (SubE.move fun B hB => ⟨⟨hB.1, Nat.lt_of_lt_of_le hB.2 fr3.1⟩, fr3.2 B hB.2 (by have := hB.1; omega)⟩) fun B hB => ⟨⟨hB.1, Nat.lt_of_lt_of_le hB.2 fr3.1⟩, fr3.2 B hB.2 (by have := hB.1; omega)⟩
  replace k2 : ListAt ItemE 7 (fun B => H.length + 3 ≤ B ∧ B < H3.length) H3 x2 (slv qq2 x2.length 7) := k2.move (ItemE.move fun B hB => ⟨⟨hB.1, Nat.lt_of_lt_of_le hB.2 fr3.1⟩, fr3.2 B hB.2 (by have := hB.1; omega)⟩) fun B hB => ⟨⟨hB.1, Nat.lt_of_lt_of_le hB.2 fr3.1⟩, fr3.2 B hB.2 (by have := hB.1; omega)⟩
  have m3 := m3'.store [slv qq1 x1.length 9, slv qq2 x2.length 7, i64v x3, .slice none 0 0, i64v 0]
  have hset3 : ∀ B, B ≠ H.length → (H3.set H.length ⟨0, 26, [slv qq1 x1.length 9, slv qq2 x2.length 7, i64v x3, .slice none 0 0, i64v 0].toArray, 5, false, []⟩)[B]? = H3[B]? := fun B hB => List.getElem?_set_ne (Ne.symm hB)
  have hlen3 : (H3.set H.length ⟨0, 26, [slv qq1 x1.length 9, slv qq2 x2.length 7, i64v x3, .slice none 0 0, i64v 0].toArray, 5, false, []⟩).length = H3.length := List.length_set
  replace k1 : ListAt SubE 9 (fun B => H.length + 3 ≤ B ∧ B < (H3.set H.length ⟨0, 26, [slv qq1 x1.length 9, slv qq2 x2.length 7, i64v x3, .slice none 0 0, i64v 0].toArray, 5, false, []⟩).length) (H3.set H.length ⟨0, 26, [slv qq1 x1.length 9, slv qq2 x2.length 7, i64v x3, .slice none 0 0, i64v 0].toArray, 5, false, []⟩) x1 (slv qq1 x1.length 9) := by
    rw [hlen3]
    exact k1.move (SubE.move fun B hB => ⟨hB, hset3 B (by have := hB.1; omega)⟩) fun B hB => ⟨hB, hset3 B (by have := hB.1; omega)⟩
  replace k2 : ListAt ItemE 7 (fun B => H.length + 3 ≤ B ∧ B < (H3.set H.length ⟨0, 26, [slv qq1 x1.length 9, slv qq2 x2.length 7, i64v x3, .slice none 0 0, i64v 0].toArray, 5, false, []⟩).length) (H3.set H.length ⟨0, 26, [slv qq1 x1.length 9, slv qq2 x2.length 7, i64v x3, .slice none 0 0, i64v 0].toArray, 5, false, []⟩) x2 (slv qq2 x2.length 7) := by
    rw [hlen3]
    exact k2.move (ItemE.move fun B hB => ⟨hB, hset3 B (by have := hB.1; omega)⟩) fun B hB => ⟨hB, hset3 B (by have := hB.1; omega)⟩
  simp (disch := first | assumption | omega | (simp only [go_sem] <;> omega) | fail) only [go_sem, andThen_panic, f3, hs3, List.set_set]
  clear hs3 hfs3 hlen3 hset3
  generalize hGG : List.set H3 H.length _ = G3 at *
  clear hGG m3' 
  rcases Fsome_out (p := p) m3.rd (by omega) (by omega) (fun H' q' l' hr hl => Fout hr (by omega) (by omega)) with ⟨x4, l4, v4, H4, q4, e4, f4, fr4, r4, hl4, qq4, cc4, rfl, hcat4, hcl4, hqq4, hLC4⟩ | ⟨e4, H4, f4, fr4⟩
  rotate_left
  · unfold ptr0 at f4
    simp (disch := first | assumption | omega | (simp only [go_sem] <;> omega) | fail) only [go_sem, andThen_panic, f4]
    refine Get_badR (m3.toGW.call fr4) (.inl (by rw [stateP, bindP_some e1, bindP_some e2, bindP_some e3, bindP_none e4])) hp rfl ?_ ?_ <;> simp only [go_sem]
  unfold ptr0 at f4
  have m4' := m3.call fr4 r4
  obtain ⟨fs4, hfs4, hs4⟩ := m4'.s
  have hN4 : H.length < H4.length := by have := m4'.fr.1; omega
  replace k1 : ListAt SubE 9 (fun B => H.length + 3 ≤ B ∧ B < H4.length) H4 x1 (slv qq1 x1.length 9) := k1.move (SubE.move fun B hB => ⟨⟨hB.1, Nat.lt_of_lt_of_le hB.2 fr4.1⟩, fr4.2 B hB.2 (by have := hB.1; omega)⟩) fun B hB => ⟨⟨hB.1, Nat.lt_of_lt_of_le hB.2 fr4.1⟩, fr4.2 B hB.2 (by have := hB.1; omega)⟩
  replace k2 : ListAt ItemE 7 (fun B => H.length + 3 ≤ B ∧ B < H4.length) H4 x2 (slv qq2 x2.length 7) := k2.move (ItemE.move fun B hB => ⟨⟨hB.1, Nat.lt_of_lt_of_le hB.2 fr4.1⟩, fr4.2 B hB.2 (by have := hB.1; omega)⟩) fun B hB => ⟨⟨hB.1, Nat.lt_of_lt_of_le hB.2 fr4.1⟩, fr4.2 B hB.2 (by have := hB.1; omega)⟩
  have k4 : ListAt OutE 9 (fun B => H.length + 3 ≤ B ∧ B < H4.length) H4 x4 (slv qq4 x4.length 9) :=
    ListAt.move (O := fun B => G3.length ≤ B ∧ B < H4.length) (OutE.move fun B hB => ⟨⟨by have := m3.fr.1; have := hB.1; omega, hB.2⟩, rfl⟩) (fun B hB => ⟨⟨by have := m3.fr.1; have := hB.1; omega, hB.2⟩, rfl⟩) ⟨qq4, cc4, rfl, hcat4, hcl4, hqq4, hLC4⟩
  have m4 := m4'.store [slv qq1 x1.length 9, slv qq2 x2.length 7, i64v x3, slv qq4 x4.length 9, i64v 0]
  have hset4 : ∀ B, B ≠ H.length → (H4.set H.length ⟨0, 26, [slv qq1 x1.length 9, slv qq2 x2.length 7, i64v x3, slv qq4 x4.length 9, i64v 0].toArray, 5, false, []⟩)[B]? = H4[B]? := fun B hB => List.getElem?_set_ne (Ne.symm hB)
  have hlen4 : (H4.set H.length ⟨0, 26, [slv qq1 x1.length 9, slv qq2 x2.length 7, i64v x3, slv qq4 x4.length 9, i64v 0].toArray, 5, false, []⟩).length = H4.length := List.length_set
  replace k1 : ListAt SubE 9 (fun B => H.length + 3 ≤ B ∧ B < (H4.set H.length ⟨0, 26, [slv qq1 x1.length 9, slv qq2 x2.length 7, i64v x3, slv qq4 x4.length 9, i64v 0].toArray, 5, false, []⟩).length) (H4.set H.length ⟨0, 26, [slv qq1 x1.length 9, slv qq2 x2.length 7, i64v x3, slv qq4 x4.length 9, i64v 0].toArray, 5, false, []⟩) x1 (slv qq1 x1.length 9) := by
    rw [hlen4]
    exact k1.move (SubE.move fun B hB => ⟨hB, hset4 B (by have := hB.1; omega)⟩) fun B hB => ⟨hB, hset4 B (by have := hB.1; omega)⟩
  replace k2 : ListAt ItemE 7 (fun B => H.length + 3 ≤ B ∧ B < (H4.set H.length ⟨0, 26, [slv qq1 x1.length 9, slv qq2 x2.length 7, i64v x3, slv qq4 x4.length 9, i64v 0].toArray, 5, false, []⟩).length) (H4.set H.length ⟨0, 26, [slv qq1 x1.length 9, slv qq2 x2.length 7, i64v x3, slv qq4 x4.length 9, i64v 0].toArray, 5, false, []⟩) x2 (slv qq2 x2.length 7) := by
    rw [hlen4]
    exact k2.move (ItemE.move fun B hB => ⟨hB, hset4 B (by have := hB.1; omega)⟩) fun B hB => ⟨hB, hset4 B (by have := hB.1; omega)⟩
  replace k4 : ListAt OutE 9 (fun B => H.length + 3 ≤ B ∧ B < (H4.set H.length ⟨0, 26, [slv qq1 x1.length 9, slv qq2 x2.length 7, i64v x3, slv qq4 x4.length 9, i64v 0].toArray, 5, false, []⟩).length) (H4.set H.length ⟨0, 26, [slv qq1 x1.length 9, slv qq2 x2.length 7, i64v x3, slv qq4 x4.length 9, i64v 0].toArray, 5, false, []⟩) x4 (slv qq4 x4.length 9) := by
    rw [hlen4]
    exact k4.move (OutE.move fun B hB => ⟨hB, hset4 B (by have := hB.1; omega)⟩) fun B hB => ⟨hB, hset4 B (by have := hB.1; omega)⟩
  simp (disch := first | assumption | omega | (simp only [go_sem] <;> omega) | fail) only [go_sem, andThen_panic, f4, hs4, List.set_set]
  clear hs4 hfs4 hlen4 hset4
  generalize hGG : List.set H4 H.length _ = G4 at *
  clear hGG m4' 
  rcases Fnum (p := p) m4.rd (by omega) with ⟨x5, l5, v5, H5, q5, e5, f5, fr5, r5, hl5, rfl, hb5, hc5⟩ | ⟨e5, H5, f5, fr5⟩
  rotate_left
  · unfold ptr0 at f5
    simp (disch := first | assumption | omega | (simp only [go_sem] <;> omega) | fail) only [go_sem, andThen_panic, f5]
    refine Get_badR (m4.toGW.call fr5) (.inl (by rw [stateP, bindP_some e1, bindP_some e2, bindP_some e3, bindP_some e4, bindP_none e5])) hp rfl ?_ ?_ <;> simp only [go_sem]
  unfold ptr0 at f5
  have m5' := m4.call fr5 r5
  obtain ⟨fs5, hfs5, hs5⟩ := m5'.s
  have hN5 : H.length < H5.length := by have := m5'.fr.1; omega
  replace k1 : ListAt SubE 9 (fun B => H.length + 3 ≤ B ∧ B < H5.length) H5 x1 (slv qq1 x1.length 9) := k1.move (SubE.move fun B hB => ⟨⟨hB.1, Nat.lt_of_lt_of_le hB.2 fr5.1⟩, fr5.2 B hB.2 (by have := hB.1; omega)⟩) fun B hB => ⟨⟨hB.1, Nat.lt_of_lt_of_le hB.2 fr5.1⟩, fr5.2 B hB.2 (by have := hB.1; omega)⟩
  replace k2 : ListAt ItemE 7 (fun B => H.length + 3 ≤ B ∧ B < H5.length) H5 x2 (slv qq2 x2.length 7) := k2.move (ItemE.move fun B hB => ⟨⟨hB.1, Nat.lt_of_lt_of_le hB.2 fr5.1⟩, fr5.2 B hB.2 (by have := hB.1; omega)⟩) fun B hB => ⟨⟨hB.1, Nat.lt_of_lt_of_le hB.2 fr5.1⟩, fr5.2 B hB.2 (by have := hB.1; omega)⟩
  replace k4 : ListAt OutE 9 (fun B => H.length + 3 ≤ B ∧ B < H5.length) H5 x4 (slv qq4 x4.length 9) := k4.move (OutE.move fun B hB => ⟨⟨hB.1, Nat.lt_of_lt_of_le hB.2 fr5.1⟩, fr5.2 B hB.2 (by have := hB.1; omega)⟩) fun B hB => ⟨⟨hB.1, Nat.lt_of_lt_of_le hB.2 fr5.1⟩, fr5.2 B hB.2 (by have := hB.1; omega)⟩
  have m5 := m5'.store [slv qq1 x1.length 9, slv qq2 x2.length 7, i64v x3, slv qq4 x4.length 9, i64v x5]
  have hset5 : ∀ B, B ≠ H.length → (H5.set H.length ⟨0, 26, [slv qq1 x1.length 9, slv qq2 x2.length 7, i64v x3, slv qq4 x4.length 9, i64v x5].toArray, 5, false, []⟩)[B]? = H5[B]? := fun B hB => List.getElem?_set_ne (Ne.symm hB)
  have hlen5 : (H5.set H.length ⟨0, 26, [slv qq1 x1.length 9, slv qq2 x2.length 7, i64v x3, slv qq4 x4.length 9, i64v x5].toArray, 5, false, []⟩).length = H5.length := List.length_set
  replace k1 : ListAt SubE 9 (fun B => H.length + 3 ≤ B ∧ B < (H5.set H.length ⟨0, 26, [slv qq1 x1.length 9, slv qq2 x2.length 7, i64v x3, slv qq4 x4.length 9, i64v x5].toArray, 5, false, []⟩).length) (H5.set H.length ⟨0, 26, [slv qq1 x1.length 9, slv qq2 x2.length 7, i64v x3, slv qq4 x4.length 9, i64v x5].toArray, 5, false, []⟩) x1 (slv qq1 x1.length 9) := by
    rw [hlen5]
    exact k1.move (SubE.move fun B hB => ⟨hB, hset5 B (by have := hB.1; omega)⟩) fun B hB => ⟨hB, hset5 B (by have := hB.1; omega)⟩
  replace k2 : ListAt ItemE 7 (fun B => H.length + 3 ≤ B ∧ B < (H5.set H.length ⟨0, 26, [slv qq1 x1.length 9, slv qq2 x2.length 7, i64v x3, slv qq4 x4.length 9, i64v x5].toArray, 5, false, []⟩).length) (H5.set H.length ⟨0, 26, [slv qq1 x1.length 9, slv qq2 x2.length 7, i64v x3, slv qq4 x4.length 9, i64v x5].toArray, 5, false, []⟩) x2 (slv qq2 x2.length 7) := by
    rw [hlen5]
    exact k2.move (ItemE.move fun B hB => ⟨hB, hset5 B (by have := hB.1; omega)⟩) fun B hB => ⟨hB, hset5 B (by have := hB.1; omega)⟩
  replace k4 : ListAt OutE 9 (fun B => H.length + 3 ≤ B ∧ B < (H5.set H.length ⟨0, 26, [slv qq1 x1.length 9, slv qq2 x2.length 7, i64v x3, slv qq4 x4.length 9, i64v x5].toArray, 5, false, []⟩).length) (H5.set H.length ⟨0, 26, [slv qq1 x1.length 9, slv qq2 x2.length 7, i64v x3, slv qq4 x4.length 9, i64v x5].toArray, 5, false, []⟩) x4 (slv qq4 x4.length 9) := by
    rw [hlen5]
    exact k4.move (OutE.move fun B hB => ⟨hB, hset5 B (by have := hB.1; omega)⟩) fun B hB => ⟨hB, hset5 B (by have := hB.1; omega)⟩
  obtain ⟨er, flr, hflr, hcell⟩ := m5'.rd.cell
  have hsetr : ∀ x, (H5.set H.length x)[H.length + 2]? = H5[H.length + 2]? := fun x => List.getElem?_set_ne (by omega)
  have hok := m5'.rd.okq
  obtain ⟨fle, hfle, hee⟩ := m5'.e
  have hsete : ∀ x, (H5.set H.length x)[H.length + 1]? = H5[H.length + 1]? := fun x => List.getElem?_set_ne (by omega)
  have hN5' : H.length + 3 ≤ H5.length := m5'.fr.1
  have hst : stateP l = some (⟨x1, x2, x3, x4, x5⟩, l5) := by
    rw [stateP, bindP_some e1, bindP_some e2, bindP_some e3, bindP_some e4, bindP_some e5]; rfl
  cases hl5' : l5 with
  | nil =>
    have hz : ¬ (0 : Int) < (l5.length : Int) := by simp [hl5']
    simp (disch := first | assumption | omega | (simp only [go_sem] <;> omega) | fail) only [go_sem, andThen_panic, f5, hs5, hsetr, hsete, hcell, hee, hz, List.set_set]
    rw [hl5'] at hst
    refine Get_okR (m5.toGW.storeE) hst hp rfl ⟨_, _, _, rfl, ?_, ?_, ?_⟩ ?_ ?_
    · exact k1.move (SubE.move fun B hB => ⟨⟨by have := hB.1; omega, by rw [List.length_set]; exact hB.2⟩, List.getElem?_set_ne (by have := hB.1; omega)⟩) fun B hB => ⟨⟨by have := hB.1; omega, by rw [List.length_set]; exact hB.2⟩, List.getElem?_set_ne (by have := hB.1; omega)⟩
    · exact k2.move (ItemE.move fun B hB => ⟨⟨by have := hB.1; omega, by rw [List.length_set]; exact hB.2⟩, List.getElem?_set_ne (by have := hB.1; omega)⟩) fun B hB => ⟨⟨by have := hB.1; omega, by rw [List.length_set]; exact hB.2⟩, List.getElem?_set_ne (by have := hB.1; omega)⟩
    · exact k4.move (OutE.move fun B hB => ⟨⟨by have := hB.1; omega, by rw [List.length_set]; exact hB.2⟩, List.getElem?_set_ne (by have := hB.1; omega)⟩) fun B hB => ⟨⟨by have := hB.1; omega, by rw [List.length_set]; exact hB.2⟩, List.getElem?_set_ne (by have := hB.1; omega)⟩
    · simp only [go_sem]
    · simp only [go_sem]
  | cons c r =>
    have hz : (0 : Int) < (l5.length : Int) := by rw [hl5']; simp
    simp (disch := first | assumption | omega | (simp only [go_sem] <;> omega) | fail) only [go_sem, andThen_panic, f5, hs5, hsetr, hsete, hcell, hee, hz, List.set_set]
    refine Get_badR m5.toGW (.inr ⟨_, c, r, by rw [hst, hl5']⟩) hp rfl ?_ ?_ <;> simp only [go_sem]
def byteAt (n : Int) (i : Nat) : UInt8 := UInt8.ofNat ((n / 256 ^ i) % 256).toNat
def bytesTo (n : Int) : Nat → List UInt8
  | 0 => []
  | k + 1 => byteAt n k :: bytesTo n k
def numB (n : Int) : List UInt8 := bytesTo n 8
theorem bytesTo_len (n : Int) : ∀ k, (bytesTo n k).length = k
  | 0 => rfl
  | k + 1 => by rw [bytesTo, List.length_cons, bytesTo_len n k]
theorem numB_len (n : Int) : (numB n).length = 8 := bytesTo_len n 8
def textB (s : List UInt8) : List UInt8 := numB s.length ++ s
theorem shr8 {P : Program} {c : Bool} {T : TypeId} (n : Int) (i : Nat) (hi : i < 8) : binV P c .shr T (.int .i64 n) (.int .i64 (8 * (i : Int))) = some (.int .i64 (n / 256 ^ i)) := by
  refine binV_ints ?_ rfl
  show pureRun P (Op.shift .shr .i64 n .i64 (8 * (i : Int))) = _
  unfold Op.shift
  rw [if_neg (by omega)]
  show some (Value.int .i64 (n.fdiv (2 ^ (min (8 * (i : Int)).toNat 64)))) = _
  have e : min (8 * (i : Int)).toNat 64 = 8 * i := by omega
  rw [e, Int.pow_mul]
  rw [Int.fdiv_eq_ediv_of_nonneg _ (Int.pow_nonneg (by decide))]
  rfl
theorem cv_byte {p : Nat} (H : Heap) (n : Int) (i : Nat) : cvS Tryz.prog p 3 5 (.int .i64 (n / 256 ^ i)) H = some (u8v (byteAt n i), H) := by
  rw [cvS_ne (by decide), conv_intInt Tryz.underlying3 Tryz.underlying5]
  have e : IntKind.u8.wrap (n / 256 ^ i) = (byteAt n i).toNat := by
    have e : IntKind.u8.wrap (n / 256 ^ i) = (n / 256 ^ i) % 256 := by
      unfold IntKind.wrap
      simp [IntKind.bits, IntKind.signed]
    rw [e, byteAt]
    generalize (n / 256 ^ i : Int) = m
    rw [UInt8.toNat_ofNat']
    have : (m % 256).toNat % 2 ^ 8 = (m % 256).toNat := Nat.mod_eq_of_lt (by omega)
    rw [this]
    omega
  rw [e]
structure WrAt (p : Nat) (H : Heap) (A : Nat) (q : Q) (l : List UInt8) : Prop where
  cell : ∃ e fl, fl ≤ 1 ∧ H[A]? = some ⟨0, e, #[slv q l.length 1], fl, false, []⟩
  own : OwnS p H q (u8s l)
  ne : ∀ B, inq q B → A < B
theorem WrAt.lt {p : Nat} {H : Heap} {A : Nat} {q : Q} {l : List UInt8} (h : WrAt p H A q l) : A < H.length := by
  obtain ⟨e, fl, _, h⟩ := h.cell
  exact (List.getElem?_eq_some_iff.1 h).1
theorem WrAt.keep {p : Nat} {H H' : Heap} {A : Nat} {q : Q} {l : List UInt8} (h : WrAt p H A q l) (hk : ∀ B, B = A ∨ inq q B → H'[B]? = H[B]?) : WrAt p H' A q l where
  cell := by obtain ⟨e, fl, h1, h2⟩ := h.cell; exact ⟨e, fl, h1, (hk A (.inl rfl)).trans h2⟩
  own := h.own.keep fun B hB => hk B (.inr hB)
  ne := h.ne
structure FrW (A : Nat) (q q' : Q) (H H' : Heap) : Prop where
  le : H.length ≤ H'.length
  keep : ∀ B, B < H.length → B ≠ A → ¬ inq q B → H'[B]? = H[B]?
  new : ∀ C, inq q' C → inq q C ∨ H.length ≤ C
theorem FrW.refl (A : Nat) (q : Q) (H : Heap) : FrW A q q H H := ⟨Nat.le_refl _, fun _ _ _ _ => rfl, fun _ h => .inl h⟩
theorem FrW.trans {A : Nat} {q q' q'' : Q} {a b c : Heap} (h : FrW A q q' a b) (k : FrW A q' q'' b c) : FrW A q q'' a c where
  le := Nat.le_trans h.le k.le
  keep := fun B h1 h2 h3 => (k.keep B (Nat.lt_of_lt_of_le h1 h.le) h2 (fun hc => (h.new B hc).elim h3 (by omega))).trans (h.keep B h1 h2 h3)
  new := fun C hC => (k.new C hC).elim (h.new C) fun hc => .inr (Nat.le_trans h.le hc)
theorem FrW.push (A : Nat) (q : Q) (H X : Heap) : FrW A q q H (H ++ X) := ⟨by simp, fun B h _ _ => List.getElem?_append_left h, fun _ h => .inl h⟩
theorem WrAt.add {p : Nat} {H H2 : Heap} {A : Nat} {q q' : Q} {l : List UInt8} (w : List UInt8) (h : WrAt p H A q l) (g2 : OwnS p H2 q' (u8s l ++ u8s w)) (g3 : H.length ≤ H2.length) (g4 : ∀ C, C < H.length → ¬ inq q C → H2[C]? = H[C]?) (g5 : ∀ C, inq q' C → inq q C ∨ H.length ≤ C) (T : TypeId) :
    WrAt p (H2.set A ⟨0, T, #[slv q' (l.length + w.length) 1], 1, false, []⟩) A q' (l ++ w) ∧ FrW A q q' H (H2.set A ⟨0, T, #[slv q' (l.length + w.length) 1], 1, false, []⟩) := by
  have hlt := h.lt
  have hne : ∀ B, inq q' B → A < B := fun B hB => (g5 B hB).elim (h.ne B) (by omega)
  refine ⟨⟨⟨T, 1, Nat.le_refl _, ?_⟩, ?_, hne⟩, ⟨by rw [List.length_set]; exact g3, fun B h1 h2 h3 => by rw [List.getElem?_set_ne (Ne.symm h2)]; exact g4 B h1 h3, g5⟩⟩
  · rw [List.getElem?_set_self (by omega), List.length_append]
  · rw [show u8s (l ++ w) = u8s l ++ u8s w by simp [u8s]]
    exact g2.keep fun B hB => List.getElem?_set_ne (by have := hne B hB; omega)
theorem Fnumbers {A : Nat} {q qs : Q} {l : List UInt8} {xs : List Int} {p : Nat} {H : Heap} (h : WrAt p H A q l) (hp : p ≤ A) (hs : CAt H qs (i64s xs)) (hne : ∀ B, inq qs B → B ≠ A ∧ ¬ inq q B ∧ B < H.length) (hb : l.length + 8 * xs.length ≤ 1099511627776) :
    ∃ H' q', F 32 #[ptr0 A 1, slv qs xs.length 1] p H = some (.returned (.tuple #[]), H') ∧ WrAt p H' A q' (l ++ xs.flatMap numB) ∧ FrW A q q' H H' := by
  rw [F, F_loud (f := 32) (X := X) (cl := cl) rfl rfl rfl Tryz.func32 rfl, Tryz.results32]
  have hqs : okq qs xs.length := hs.okq (s := 1) (by simp) (by omega)
  simp (disch := first | assumption | omega | (simp only [go_sem] <;> omega) | fail) only [go_sem]
  generalize hL : Code.loop _ = L
  have key : ∀ (k i : Nat) (t : Nat → Value) (H1 : Heap) (q1 : Q) (w : List UInt8), k + i = xs.length → WrAt p H1 A q1 (l ++ w) → FrW A q q1 H H1 → w = (xs.take i).flatMap numB → t 9 = .int .i64 i → t 8 = .int .i64 xs.length → t 7 = slv qs xs.length 1 → t 0 = ptr0 A 1 →
      ∃ t' H' q', limR Tryz.prog cl X L p ⟨t, [], H1⟩ = some (.exit 0, ⟨t', [], H'⟩) ∧ WrAt p H' A q' (l ++ xs.flatMap numB) ∧ FrW A q q' H H' := by
    intro k
    induction k with
    | zero =>
      intro i t H1 q1 w hi hw hf hw1 h9 h8 h7 h0
      have hlt : ¬ (i : Int) < xs.length := by omega
      rw [← hL, E_loop, hL]
      simp (disch := first | assumption | omega | (simp only [go_sem] <;> omega) | fail) only [go_sem, h9, h8, h7, h0, hlt]
      refine ⟨_, _, q1, rfl, ?_, hf⟩
      rw [hw1, List.take_of_length_le (by omega)] at hw
      exact hw
    | succ k ih =>
      intro i t H1 q1 w hi hw hf hw1 h9 h8 h7 h0
      have hlt : (i : Int) < xs.length := by omega
      obtain ⟨n, hn⟩ : ∃ n, xs[i]? = some n := ⟨xs[i]'(by omega), List.getElem?_eq_getElem (by omega)⟩
      have hs1 : CAt H1 qs (i64s xs) := hs.keep fun B hB => by
        obtain ⟨k1, k2, k3⟩ := hne B hB
        exact hf.keep B k3 k1 k2
      have hld := ld_ptq (P := Tryz.prog) (T := 3) sz3 ag3 un3 hs1 (o := i) (v := i64v n) (by simp [i64s, hn])
      rw [← hL, E_loop, hL]
      simp (disch := first | assumption | omega | (simp only [go_sem] <;> omega) | fail) only [go_sem, h9, h8, h7, h0, hlt, hld]
      generalize hL2 : Code.loop _ = L2
      have key2 : ∀ (m : Nat) (t : Nat → Value) (H2 : Heap) (q2 : Q) (w2 : List UInt8), m ≤ 8 → WrAt p H2 A q2 (l ++ w2) → FrW A q q2 H H2 → w2.length + m = 8 * (i + 1) → t 6 = .int .i64 ((m : Int) - 1) → t 5 = i64v n → t 0 = ptr0 A 1 → t 9 = .int .i64 i → t 8 = .int .i64 xs.length → t 7 = slv qs xs.length 1 →
          ∃ t' H' q', limR Tryz.prog cl X L2 p ⟨t, [], H2⟩ = some (.exit 2, ⟨t', [], H'⟩) ∧ WrAt p H' A q' (l ++ (w2 ++ bytesTo n m)) ∧ FrW A q q' H H' ∧ t' 0 = ptr0 A 1 ∧ t' 9 = .int .i64 i ∧ t' 8 = .int .i64 xs.length ∧ t' 7 = slv qs xs.length 1 := by
        intro m
        induction m with
        | zero =>
          intro t H2 q2 w2 hm hw2 hf2 hl2 g6 g5 g0 g9 g8 g7
          have g6' : t 6 = .int .i64 (-1) := g6
          rw [← hL2, E_loop, hL2]
          simp (disch := first | assumption | omega | (simp only [go_sem] <;> omega) | fail) only [go_sem, g6']
          refine ⟨_, _, q2, rfl, by rw [bytesTo, List.append_nil]; exact hw2, hf2, ?_, ?_, ?_, ?_⟩
          · simp only [go_sem, g0]
          · simp only [go_sem, g9]
          · simp only [go_sem, g8]
          · simp only [go_sem, g7]
        | succ m ihm =>
          intro t H2 q2 w2 hm hw2 hf2 hl2 g6 g5 g0 g9 g8 g7
          have g6' : t 6 = .int .i64 (m : Int) := by rw [g6]; congr 1; omega
          have hge : (0 : Int) ≤ (m : Int) := by omega
          have hmul : binV Tryz.prog true .mul 3 (.int .i64 8) (.int .i64 (m : Int)) = some (.int .i64 (8 * (m : Int))) := bin_mul (by omega) (by omega)
          have hshr := shr8 (P := Tryz.prog) (c := false) (T := 3) n m (by omega)
          have hcv := cv_byte (p := p) H2 n m
          have hA2 := hw2.lt
          obtain ⟨ew, fw, hfw, hcell⟩ := hw2.cell
          have hsrc : srcOf (H2 ++ [cel 5 #[u8v (byteAt n m)]]) 1 (.slice (some ⟨H2.length, 0, some 1⟩) 1 1) = some ((u8s [byteAt n m]).toArray, 1) := by
            have hcat : CAt (H2 ++ [cel 5 #[u8v (byteAt n m)]]) (some (H2.length, 0, 1)) (u8s [byteAt n m]) :=
              rd_iff.2 ⟨cel 5 #[u8v (byteAt n m)], by simp, ⟨rfl, Nat.zero_le _, by simp, by simp [cel]⟩, by simp [cel]⟩
            exact src_slv (s := 1) (len := 1) hcat rfl (by omega)
          have hown : OwnS p (H2 ++ [cel 5 #[u8v (byteAt n m)]]) q2 (u8s (l ++ w2)) := hw2.own.keep fun B hB => List.getElem?_append_left (hw2.own.lt hB).2
          obtain ⟨q3, H3, a1, a2, a3, a4, a5, a6⟩ := app_own (P := Tryz.prog) (T' := 33) (st := 33) (len := (l ++ w2).length) (m := 1) Tryz.underlying33 ei33 (by omega) ap33 (by simp; omega) hown (by simp) hsrc (by simp) (by rw [List.length_append]; omega)
          have hadd := WrAt.add (p := p) (H := H2) (H2 := H3) [byteAt n m] hw2 a2 (by simp at a3; omega) (fun C hC hn => by rw [a4 C (by simp; omega) hn]; exact List.getElem?_append_left hC) (fun C hC => (a5 C hC).imp id fun h => by simp at h; omega) ew
          simp only [cel, List.length_append] at a1
          obtain ⟨hw3, hf3⟩ : WrAt p (H3.set A ⟨0, ew, #[slv q3 (l.length + w2.length + 1) 1], 1, false, []⟩) A q3 (l ++ (w2 ++ [byteAt n m])) ∧ FrW A q2 q3 H2 (H3.set A ⟨0, ew, #[slv q3 (l.length + w2.length + 1) 1], 1, false, []⟩) := by
            have := hadd
            simp only [List.length_append, List.length_cons, List.length_nil, Nat.zero_add, List.append_assoc] at this
            exact this
          rw [List.length_append] at hcell
          have hcell3 : H3[A]? = some ⟨0, ew, #[slv q2 (l.length + w2.length) 1], fw, false, []⟩ := by
            rw [a4 A (by simp; omega) (fun hc => by have := hw2.ne A hc; omega), List.getElem?_append_left hA2, hcell]
          rw [← hL2, E_loop, hL2]
          simp (disch := first | assumption | omega | (simp only [go_sem] <;> omega) | fail) only [go_sem, g6', g5, g0, hge, hmul, hshr, hcv, hcell, a1, hcell3]
          generalize hT : upd _ 6 _ = T
          obtain ⟨t', H', q', b1, b2, b3, b4⟩ := ihm T _ q3 (w2 ++ [byteAt n m]) (by omega) hw3 (hf2.trans hf3) (by simp; omega) (by rw [← hT]; simp only [go_sem]) (by rw [← hT]; simp only [go_sem, g5]) (by rw [← hT]; simp only [go_sem, g0]) (by rw [← hT]; simp only [go_sem, g9]) (by rw [← hT]; simp only [go_sem, g8]) (by rw [← hT]; simp only [go_sem, g7])
          refine ⟨t', H', q', b1, ?_, b3, b4⟩
          rw [List.append_assoc] at b2
          exact b2
      generalize hT : upd _ 6 _ = T
      have hwl : w.length = 8 * i := by
        rw [hw1]
        have : ∀ ys : List Int, (ys.flatMap numB).length = 8 * ys.length := fun ys => by
          induction ys with
          | nil => rfl
          | cons y ys ih => rw [List.flatMap_cons, List.length_append, numB_len, ih, List.length_cons]; omega
        rw [this, List.length_take]
        omega
      obtain ⟨t', H', q', b1, b2, b3, c0, c9, c8, c7⟩ := key2 8 T H1 q1 w (Nat.le_refl _) hw hf (by omega) (by rw [← hT]; simp only [go_sem]; try rfl) (by rw [← hT]; simp only [go_sem]) (by rw [← hT]; simp only [go_sem, h0]) (by rw [← hT]; simp only [go_sem, h9]) (by rw [← hT]; simp only [go_sem, h8]) (by rw [← hT]; simp only [go_sem, h7])
      rw [b1]
      simp (disch := first | assumption | omega | (simp only [go_sem] <;> omega) | fail) only [go_sem, c9]
      generalize hT2 : upd _ 9 _ = T2
      exact ih (i + 1) T2 H' q' (w ++ numB n) (by omega) b2 b3 (by rw [List.take_add_one, hn, hw1]; simp) (by rw [← hT2]; simp only [go_sem]; rfl) (by rw [← hT2]; simp only [go_sem, c8]) (by rw [← hT2]; simp only [go_sem, c7]) (by rw [← hT2]; simp only [go_sem, c0])
  generalize hT : upd _ 9 _ = T
  obtain ⟨t', H', q', k1, k2, k3⟩ := key xs.length 0 T H q [] rfl (by rw [List.append_nil]; exact h) (FrW.refl _ _ _) rfl (by rw [← hT]; simp only [go_sem]; try rfl) (by rw [← hT]; simp only [go_sem]) (by rw [← hT]; simp only [go_sem]) (by rw [← hT]; simp only [go_sem])
  rw [k1]
  simp only [go_sem]
  exact ⟨H', q', rfl, k2, k3⟩
theorem FnumbersB {A : Nat} {q : Q} {l : List UInt8} {xs : List Int} {p : Nat} {H : Heap} (h : WrAt p H A q l) (hp : p ≤ A) (hb : l.length + 8 * xs.length ≤ 1099511627776) :
    ∃ H' q', F 32 #[ptr0 A 1, .slice (some ⟨H.length, 0, some xs.length⟩) xs.length 1] p (H ++ [⟨0, 3, (i64s xs).toArray, 0, false, []⟩]) = some (.returned (.tuple #[]), H') ∧ WrAt p H' A q' (l ++ xs.flatMap numB) ∧ FrW A q q' H H' := by
  have hlt := h.lt
  have hcat : CAt (H ++ [⟨0, 3, (i64s xs).toArray, 0, false, []⟩]) (some (H.length, 0, xs.length)) (i64s xs) := by
    rw [CAt]
    exact rd_iff.2 ⟨⟨0, 3, (i64s xs).toArray, 0, false, []⟩, by simp, ⟨rfl, Nat.zero_le _, by simp, by simp⟩, by simp [List.take_of_length_le]⟩
  obtain ⟨H', q', e, k1, k2⟩ := Fnumbers (h.keep (H' := H ++ [⟨0, 3, (i64s xs).toArray, 0, false, []⟩]) fun B hB => List.getElem?_append_left (by
    rcases hB with rfl | hB
    · exact hlt
    · exact (h.own.lt hB).2)) hp hcat (fun B hB => by
      obtain ⟨o, n, hB⟩ := hB
      cases hB
      exact ⟨by omega, fun hc => by have := (h.own.lt hc).2; omega, by simp⟩) hb
  exact ⟨H', q', e, k1, (FrW.push A q H _).trans k2⟩
theorem texts_len : ∀ xs : List (List UInt8), xs.length ≤ (xs.flatMap textB).length
  | [] => Nat.le_refl _
  | x :: xs => by
    have := texts_len xs
    rw [List.flatMap_cons, List.length_append, textB, List.length_append, numB_len, List.length_cons]
    omega
theorem Ftexts {A : Nat} {q qs : Q} {l : List UInt8} {xs : List (List UInt8)} {p : Nat} {H : Heap} (h : WrAt p H A q l) (hp : p ≤ A) (hs : CAt H qs (xs.map str)) (hne : ∀ B, inq qs B → B ≠ A ∧ ¬ inq q B ∧ B < H.length) (hb : l.length + (xs.flatMap textB).length ≤ 1099511627776) :
    ∃ H' q', F 70 #[ptr0 A 1, slv qs xs.length 1] p H = some (.returned (.tuple #[]), H') ∧ WrAt p H' A q' (l ++ xs.flatMap textB) ∧ FrW A q q' H H' := by
  rw [F, F_loud (f := 70) (X := X) (cl := cl) rfl rfl rfl Tryz.func70 rfl, Tryz.results70]
  have hxl := texts_len xs
  have hqs : okq qs xs.length := hs.okq (s := 1) (by simp) (by omega)
  simp (disch := first | assumption | omega | (simp only [go_sem] <;> omega) | fail) only [go_sem]
  generalize hL : Code.loop _ = L
  have key : ∀ (ys : List (List UInt8)) (i : Nat) (t : Nat → Value) (H1 : Heap) (q1 : Q) (w : List UInt8), xs.drop i = ys → i ≤ xs.length → WrAt p H1 A q1 (l ++ w) → FrW A q q1 H H1 → w ++ ys.flatMap textB = xs.flatMap textB → t 8 = .int .i64 i → t 7 = .int .i64 xs.length → t 6 = slv qs xs.length 1 → t 0 = ptr0 A 1 →
      ∃ t' H' q', limR Tryz.prog cl X L p ⟨t, [], H1⟩ = some (.exit 0, ⟨t', [], H'⟩) ∧ WrAt p H' A q' (l ++ xs.flatMap textB) ∧ FrW A q q' H H' := by
    intro ys
    induction ys with
    | nil =>
      intro i t H1 q1 w hd hi hw hf hw1 h8 h7 h6 h0
      have hlen : xs.length ≤ i := List.drop_eq_nil_iff.1 hd
      have hlt : ¬ (i : Int) < xs.length := by omega
      rw [← hL, E_loop, hL]
      simp (disch := first | assumption | omega | (simp only [go_sem] <;> omega) | fail) only [go_sem, h8, h7, h6, h0, hlt]
      refine ⟨_, _, q1, rfl, ?_, hf⟩
      rw [List.flatMap_nil, List.append_nil] at hw1
      rw [← hw1]
      exact hw
    | cons y ys ih =>
      intro i t H1 q1 w hd hi hw hf hw1 h8 h7 h6 h0
      have hlt' : i < xs.length := by
        rcases Nat.lt_or_ge i xs.length with h | h
        · exact h
        · rw [List.drop_of_length_le h] at hd; cases hd
      have hlt : (i : Int) < xs.length := by omega
      have hy : xs[i]? = some y := by
        rw [List.drop_eq_getElem_cons hlt'] at hd
        injection hd with h1 _
        rw [List.getElem?_eq_getElem hlt', h1]
      have hd' : xs.drop (i + 1) = ys := by
        rw [List.drop_eq_getElem_cons hlt'] at hd
        injection hd
      have hs1 : CAt H1 qs (xs.map str) := hs.keep fun B hB => by
        obtain ⟨k1, k2, k3⟩ := hne B hB
        exact hf.keep B k3 k1 k2
      have hld := ld_ptq (P := Tryz.prog) (T := 9) sz9 ag9 un9 hs1 (o := i) (v := str y) (by simp [hy])
      have hwl : w.length + 8 + y.length ≤ (xs.flatMap textB).length := by
        rw [← hw1, List.flatMap_cons, List.length_append, List.length_append, textB, List.length_append, numB_len]
        omega
      obtain ⟨H2, q2, e2, w2, f2⟩ := FnumbersB (xs := [(y.length : Int)]) hw hp (by rw [List.length_append]; simp; omega)
      have e2' : F 32 #[.pointer (some ⟨A, 0, some 1⟩), .slice (some ⟨H1.length, 0, some 1⟩) 1 1] p (H1 ++ [⟨0, 3, #[.int .i64 y.length], 0, false, []⟩]) = some (.returned (.tuple #[]), H2) := e2
      simp only [List.flatMap_cons, List.flatMap_nil, List.append_nil, List.append_assoc] at w2
      obtain ⟨ew, fw, hfw, hcell⟩ := w2.cell
      have hsrc := src_str (H := H2) y
      have hA2 := w2.lt
      obtain ⟨q3, H3, a1, a2, a3, a4, a5, a6⟩ := app_own (P := Tryz.prog) (T' := 9) (st := 33) (len := (l ++ (w ++ numB y.length)).length) (m := y.length) Tryz.underlying33 ei33 (by omega) (by kernel_rfl) (by omega) w2.own (by simp) hsrc (by simp) (by rw [List.length_append, List.length_append, numB_len]; omega)
      have hadd := WrAt.add (p := p) (H := H2) (H2 := H3) y w2 a2 a3 a4 a5 ew
      simp only [List.length_append, numB_len] at a1 hcell
      obtain ⟨hw3, hf3⟩ : WrAt p (H3.set A ⟨0, ew, #[slv q3 (l.length + (w.length + 8) + y.length) 1], 1, false, []⟩) A q3 (l ++ (w ++ textB y)) ∧ FrW A q2 q3 H2 (H3.set A ⟨0, ew, #[slv q3 (l.length + (w.length + 8) + y.length) 1], 1, false, []⟩) := by
        have := hadd
        simp only [List.length_append, numB_len, List.append_assoc] at this
        exact this
      have hcell3 : H3[A]? = some ⟨0, ew, #[slv q2 (l.length + (w.length + 8)) 1], fw, false, []⟩ := by
        rw [a4 A hA2 (fun hc => by have := w2.ne A hc; omega), hcell]
      rw [← hL, E_loop, hL]
      simp (disch := first | assumption | omega | (simp only [go_sem] <;> omega) | fail) only [go_sem, h8, h7, h6, h0, hlt, hld, e2', hcell, a1, hcell3]
      generalize hT : upd _ 8 _ = T
      exact ih (i + 1) T _ q3 (w ++ textB y) hd' (by omega) hw3 ((hf.trans f2).trans hf3) (by rw [← hw1, List.flatMap_cons, List.append_assoc]) (by rw [← hT]; simp only [go_sem]; rfl) (by rw [← hT]; simp only [go_sem, h7]) (by rw [← hT]; simp only [go_sem, h6]) (by rw [← hT]; simp only [go_sem, h0])
  generalize hT : upd _ 8 _ = T
  obtain ⟨t', H', q', k1, k2, k3⟩ := key xs 0 T H q [] rfl (Nat.zero_le _) (by rw [List.append_nil]; exact h) (FrW.refl _ _ _) rfl (by rw [← hT]; simp only [go_sem]; try rfl) (by rw [← hT]; simp only [go_sem]) (by rw [← hT]; simp only [go_sem]) (by rw [← hT]; simp only [go_sem])
  rw [k1]
  simp only [go_sem]
  exact ⟨H', q', rfl, k2, k3⟩
theorem FtextsB {A : Nat} {q : Q} {l : List UInt8} {xs : List (List UInt8)} {p : Nat} {H : Heap} (h : WrAt p H A q l) (hp : p ≤ A) (hb : l.length + (xs.flatMap textB).length ≤ 1099511627776) :
    ∃ H' q', F 70 #[ptr0 A 1, .slice (some ⟨H.length, 0, some xs.length⟩) xs.length 1] p (H ++ [⟨0, 9, (xs.map str).toArray, 0, false, []⟩]) = some (.returned (.tuple #[]), H') ∧ WrAt p H' A q' (l ++ xs.flatMap textB) ∧ FrW A q q' H H' := by
  have hlt := h.lt
  have hcat : CAt (H ++ [⟨0, 9, (xs.map str).toArray, 0, false, []⟩]) (some (H.length, 0, xs.length)) (xs.map str) := by
    rw [CAt]
    exact rd_iff.2 ⟨⟨0, 9, (xs.map str).toArray, 0, false, []⟩, by simp, ⟨rfl, Nat.zero_le _, by simp, by simp⟩, by simp [List.take_of_length_le]⟩
  obtain ⟨H', q', e, k1, k2⟩ := Ftexts (h.keep (H' := H ++ [⟨0, 9, (xs.map str).toArray, 0, false, []⟩]) fun B hB => List.getElem?_append_left (by
    rcases hB with rfl | hB
    · exact hlt
    · exact (h.own.lt hB).2)) hp hcat (fun B hB => by
      obtain ⟨o, n, hB⟩ := hB
      cases hB
      exact ⟨by omega, fun hc => by have := (h.own.lt hc).2; omega, by simp⟩) hb
  exact ⟨H', q', e, k1, (FrW.push A q H _).trans k2⟩
def offB (b : Bool) : List UInt8 := [if b = true then 1 else 0]
def subB (x : SubL) : List UInt8 := textB x.addr ++ (numB x.feeds.length ++ (x.feeds.flatMap numB ++ (textB x.zone ++ (textB x.cron ++ (numB x.start ++ (numB x.cursor ++ (numB x.no ++ (numB x.clock ++ offB x.off))))))))
def itemB (x : ItemL) : List UInt8 := numB x.feed ++ (numB x.seq ++ (textB x.id ++ (textB x.title ++ (textB x.link ++ (textB x.text ++ numB x.at_)))))
def outB (x : OutL) : List UInt8 := numB x.sub ++ (numB x.no ++ (numB x.from_ ++ (numB x.upto ++ (textB x.mail ++ (numB x.cut ++ (numB x.tried ++ (numB x.next ++ numB x.out)))))))
def listB {α : Type} (f : α → List UInt8) (xs : List α) : List UInt8 := numB xs.length ++ xs.flatMap f
def putL (s : StateL) : List UInt8 := listB subB s.subs ++ (listB itemB s.items ++ (numB s.seq ++ (listB outB s.out ++ numB s.now)))
theorem ints_len (xs : List Int) : (xs.flatMap numB).length = 8 * xs.length := by
  induction xs with
  | nil => rfl
  | cons y ys ih => rw [List.flatMap_cons, List.length_append, numB_len, ih, List.length_cons]; omega
theorem textB_len (s : List UInt8) : (textB s).length = 8 + s.length := by rw [textB, List.length_append, numB_len]
theorem offB_len (b : Bool) : (offB b).length = 1 := rfl
theorem WrAt.box {p : Nat} {H : Heap} {A : Nat} {q : Q} {l : List UInt8} (h : WrAt p H A q l) (b : Blk) : WrAt p (H ++ [b]) A q l := h.keep fun B hB => List.getElem?_append_left (by
  rcases hB with rfl | hB
  · exact h.lt
  · exact (h.own.lt hB).2)
theorem FrW.box {p : Nat} {H H' : Heap} {A : Nat} {q q' : Q} {l : List UInt8} {b : Blk} (h : WrAt p H A q l) (f : FrW A q q' (H ++ [b]) H') : H'[H.length]? = some b := by
  rw [f.keep H.length (by simp) (by have := h.lt; omega) (fun hc => by have := (h.own.lt hc).2; omega)]
  simp
theorem FrW.cat {H H' : Heap} {A : Nat} {q q' qf : Q} {cs : List Value} (f : FrW A q q' H H') (h : CAt H qf cs) (hq : ∀ B, inq qf B → B < A ∧ B < H.length) (hn : ∀ B, inq q B → A < B) : CAt H' qf cs :=
  h.keep fun B hB => f.keep B (hq B hB).2 (by have := (hq B hB).1; omega) fun hc => by have := hn B hc; have := (hq B hB).1; omega
theorem Fwitem {A : Nat} {q : Q} {l : List UInt8} {x : ItemL} {cs : List Value} {p : Nat} {H : Heap} {O : Nat → Prop} (h : WrAt p H A q l) (hp : p ≤ A) (hx : ItemE O H x cs) (hO : ∀ B, O B → B < A) (hb : l.length + (itemB x).length ≤ 1099511627776) :
    ∃ H' q', F 31 #[ptr0 A 1, .agg cs.toArray] p H = some (.returned (.tuple #[]), H') ∧ WrAt p H' A q' (l ++ itemB x) ∧ FrW A q q' H H' := by
  rw [F, F_loud (f := 31) (X := X) (cl := cl) rfl rfl rfl Tryz.func31 rfl, Tryz.results31]
  have hA := h.lt
  obtain rfl : cs = x.cells := hx
  
  
  simp only [itemB, List.length_append, numB_len, textB_len, ints_len, offB_len] at hb
  have w0 := h.box ⟨0, 48, #[i64v x.feed, i64v x.seq, str x.id, str x.title, str x.link, str x.text, i64v x.at_], 0, false, []⟩
  have fr0 : FrW A q q (H ++ [⟨0, 48, #[i64v x.feed, i64v x.seq, str x.id, str x.title, str x.link, str x.text, i64v x.at_], 0, false, []⟩]) (H ++ [⟨0, 48, #[i64v x.feed, i64v x.seq, str x.id, str x.title, str x.link, str x.text, i64v x.at_], 0, false, []⟩]) := FrW.refl _ _ _
  have hbl0 := fr0.box h
  simp (disch := first | assumption | omega | (simp only [go_sem] <;> omega) | fail) only [go_sem, ItemL.cells, hbl0]
  have frH := FrW.push A q H [⟨0, 48, #[i64v x.feed, i64v x.seq, str x.id, str x.title, str x.link, str x.text, i64v x.at_], 0, false, []⟩]
  generalize hH0 : H ++ _ = H0 at *
  have hl0 : H0.length = H.length + 1 := by rw [← hH0]; simp
  obtain ⟨H1, q1, e1, w1, g1⟩ := FnumbersB (xs := [x.feed, x.seq]) w0 hp (by (try simp only [List.length_append, List.length_cons, List.length_nil, List.flatMap_cons, List.flatMap_nil, numB_len, textB_len, ints_len, offB_len]); omega)
  have e1' : F 32 #[.pointer (some ⟨A, 0, some 1⟩), .slice (some ⟨H.length + 1, 0, some 2⟩) 2 1] p (H0 ++ [⟨0, 3, #[.int .i64 (x.feed), .int .i64 (x.seq)], 0, false, []⟩]) = some (.returned (.tuple #[]), H1) := by
    rw [← hl0]
    exact e1
  simp only [List.flatMap_cons, List.flatMap_nil, List.append_nil, List.append_assoc] at w1
  have fr1 := fr0.trans g1
  have hbl1 : H1[H.length]? = some ⟨0, 48, #[i64v x.feed, i64v x.seq, str x.id, str x.title, str x.link, str x.text, i64v x.at_], 0, false, []⟩ := by
    have fb := fr1
    rw [← hH0] at fb
    exact fb.box h
  simp (disch := first | assumption | omega | (simp only [go_sem] <;> omega) | fail) only [go_sem, e1', hbl1]
  obtain ⟨H2, q2, e2, w2, g2⟩ := FtextsB (xs := [x.id, x.title, x.link, x.text]) w1 hp (by (try simp only [List.length_append, List.length_cons, List.length_nil, List.flatMap_cons, List.flatMap_nil, numB_len, textB_len, ints_len, offB_len]); omega)
  have e2' : F 70 #[.pointer (some ⟨A, 0, some 1⟩), .slice (some ⟨H1.length, 0, some 4⟩) 4 1] p (H1 ++ [⟨0, 9, #[str x.id, str x.title, str x.link, str x.text], 0, false, []⟩]) = some (.returned (.tuple #[]), H2) := e2
  simp only [List.flatMap_cons, List.flatMap_nil, List.append_nil, List.append_assoc] at w2
  have fr2 := fr1.trans g2
  have hbl2 : H2[H.length]? = some ⟨0, 48, #[i64v x.feed, i64v x.seq, str x.id, str x.title, str x.link, str x.text, i64v x.at_], 0, false, []⟩ := by
    have fb := fr2
    rw [← hH0] at fb
    exact fb.box h
  simp (disch := first | assumption | omega | (simp only [go_sem] <;> omega) | fail) only [go_sem, e2', hbl2]
  obtain ⟨H3, q3, e3, w3, g3⟩ := FnumbersB (xs := [x.at_]) w2 hp (by (try simp only [List.length_append, List.length_cons, List.length_nil, List.flatMap_cons, List.flatMap_nil, numB_len, textB_len, ints_len, offB_len]); omega)
  have e3' : F 32 #[.pointer (some ⟨A, 0, some 1⟩), .slice (some ⟨H2.length, 0, some 1⟩) 1 1] p (H2 ++ [⟨0, 3, #[.int .i64 (x.at_)], 0, false, []⟩]) = some (.returned (.tuple #[]), H3) := e3
  simp only [List.flatMap_cons, List.flatMap_nil, List.append_nil, List.append_assoc] at w3
  have fr3 := fr2.trans g3
  have hbl3 : H3[H.length]? = some ⟨0, 48, #[i64v x.feed, i64v x.seq, str x.id, str x.title, str x.link, str x.text, i64v x.at_], 0, false, []⟩ := by
    have fb := fr3
    rw [← hH0] at fb
    exact fb.box h
  simp (disch := first | assumption | omega | (simp only [go_sem] <;> omega) | fail) only [go_sem, e3', hbl3]
  exact ⟨H3, q3, rfl, w3, frH.trans fr3⟩
theorem Fwout {A : Nat} {q : Q} {l : List UInt8} {x : OutL} {cs : List Value} {p : Nat} {H : Heap} {O : Nat → Prop} (h : WrAt p H A q l) (hp : p ≤ A) (hx : OutE O H x cs) (hO : ∀ B, O B → B < A) (hb : l.length + (outB x).length ≤ 1099511627776) :
    ∃ H' q', F 34 #[ptr0 A 1, .agg cs.toArray] p H = some (.returned (.tuple #[]), H') ∧ WrAt p H' A q' (l ++ outB x) ∧ FrW A q q' H H' := by
  rw [F, F_loud (f := 34) (X := X) (cl := cl) rfl rfl rfl Tryz.func34 rfl, Tryz.results34]
  have hA := h.lt
  obtain ⟨qf, rfl, hcf, hqf⟩ := hx
  have hqf2 : ∀ B, inq qf B → B < A ∧ B < H.length := fun B hB => ⟨hO B (hqf B hB), by have := hO B (hqf B hB); omega⟩
  have hokf : okq qf x.mail.length := hcf.okq (s := 1) (by simp) (by omega)
  simp only [outB, List.length_append, numB_len, textB_len, ints_len, offB_len] at hb
  have w0 := h.box ⟨0, 44, #[i64v x.sub, i64v x.no, i64v x.from_, i64v x.upto, slv qf x.mail.length 1, i64v x.cut, i64v x.tried, i64v x.next, i64v x.out], 0, false, []⟩
  have fr0 : FrW A q q (H ++ [⟨0, 44, #[i64v x.sub, i64v x.no, i64v x.from_, i64v x.upto, slv qf x.mail.length 1, i64v x.cut, i64v x.tried, i64v x.next, i64v x.out], 0, false, []⟩]) (H ++ [⟨0, 44, #[i64v x.sub, i64v x.no, i64v x.from_, i64v x.upto, slv qf x.mail.length 1, i64v x.cut, i64v x.tried, i64v x.next, i64v x.out], 0, false, []⟩]) := FrW.refl _ _ _
  have hbl0 := fr0.box h
  simp (disch := first | assumption | omega | (simp only [go_sem] <;> omega) | fail) only [go_sem, OutL.cells, hbl0]
  have frH := FrW.push A q H [⟨0, 44, #[i64v x.sub, i64v x.no, i64v x.from_, i64v x.upto, slv qf x.mail.length 1, i64v x.cut, i64v x.tried, i64v x.next, i64v x.out], 0, false, []⟩]
  generalize hH0 : H ++ _ = H0 at *
  have hl0 : H0.length = H.length + 1 := by rw [← hH0]; simp
  obtain ⟨H1, q1, e1, w1, g1⟩ := FnumbersB (xs := [x.sub, x.no, x.from_, x.upto]) w0 hp (by (try simp only [List.length_append, List.length_cons, List.length_nil, List.flatMap_cons, List.flatMap_nil, numB_len, textB_len, ints_len, offB_len]); omega)
  have e1' : F 32 #[.pointer (some ⟨A, 0, some 1⟩), .slice (some ⟨H.length + 1, 0, some 4⟩) 4 1] p (H0 ++ [⟨0, 3, #[.int .i64 (x.sub), .int .i64 (x.no), .int .i64 (x.from_), .int .i64 (x.upto)], 0, false, []⟩]) = some (.returned (.tuple #[]), H1) := by
    rw [← hl0]
    exact e1
  simp only [List.flatMap_cons, List.flatMap_nil, List.append_nil, List.append_assoc] at w1
  have fr1 := fr0.trans g1
  have hbl1 : H1[H.length]? = some ⟨0, 44, #[i64v x.sub, i64v x.no, i64v x.from_, i64v x.upto, slv qf x.mail.length 1, i64v x.cut, i64v x.tried, i64v x.next, i64v x.out], 0, false, []⟩ := by
    have fb := fr1
    rw [← hH0] at fb
    exact fb.box h
  have hcf1 := (frH.trans fr1).cat hcf hqf2 h.ne
  simp (disch := first | assumption | omega | (simp only [go_sem] <;> omega) | fail) only [go_sem, e1', hbl1, cv33_9 _ _ _ _ (Eq.refl x.mail.length) hcf1]
  obtain ⟨H2, q2, e2, w2, g2⟩ := FtextsB (xs := [x.mail]) w1 hp (by (try simp only [List.length_append, List.length_cons, List.length_nil, List.flatMap_cons, List.flatMap_nil, numB_len, textB_len, ints_len, offB_len]); omega)
  have e2' : F 70 #[.pointer (some ⟨A, 0, some 1⟩), .slice (some ⟨H1.length, 0, some 1⟩) 1 1] p (H1 ++ [⟨0, 9, #[str x.mail], 0, false, []⟩]) = some (.returned (.tuple #[]), H2) := e2
  simp only [List.flatMap_cons, List.flatMap_nil, List.append_nil, List.append_assoc] at w2
  have fr2 := fr1.trans g2
  have hbl2 : H2[H.length]? = some ⟨0, 44, #[i64v x.sub, i64v x.no, i64v x.from_, i64v x.upto, slv qf x.mail.length 1, i64v x.cut, i64v x.tried, i64v x.next, i64v x.out], 0, false, []⟩ := by
    have fb := fr2
    rw [← hH0] at fb
    exact fb.box h
  have hcf2 := (frH.trans fr2).cat hcf hqf2 h.ne
  simp (disch := first | assumption | omega | (simp only [go_sem] <;> omega) | fail) only [go_sem, e2', hbl2, cv33_9 _ _ _ _ (Eq.refl x.mail.length) hcf2]
  obtain ⟨H3, q3, e3, w3, g3⟩ := FnumbersB (xs := [x.cut, x.tried, x.next, x.out]) w2 hp (by (try simp only [List.length_append, List.length_cons, List.length_nil, List.flatMap_cons, List.flatMap_nil, numB_len, textB_len, ints_len, offB_len]); omega)
  have e3' : F 32 #[.pointer (some ⟨A, 0, some 1⟩), .slice (some ⟨H2.length, 0, some 4⟩) 4 1] p (H2 ++ [⟨0, 3, #[.int .i64 (x.cut), .int .i64 (x.tried), .int .i64 (x.next), .int .i64 (x.out)], 0, false, []⟩]) = some (.returned (.tuple #[]), H3) := e3
  simp only [List.flatMap_cons, List.flatMap_nil, List.append_nil, List.append_assoc] at w3
  have fr3 := fr2.trans g3
  have hbl3 : H3[H.length]? = some ⟨0, 44, #[i64v x.sub, i64v x.no, i64v x.from_, i64v x.upto, slv qf x.mail.length 1, i64v x.cut, i64v x.tried, i64v x.next, i64v x.out], 0, false, []⟩ := by
    have fb := fr3
    rw [← hH0] at fb
    exact fb.box h
  have hcf3 := (frH.trans fr3).cat hcf hqf2 h.ne
  simp (disch := first | assumption | omega | (simp only [go_sem] <;> omega) | fail) only [go_sem, e3', hbl3, cv33_9 _ _ _ _ (Eq.refl x.mail.length) hcf3]
  exact ⟨H3, q3, rfl, w3, frH.trans fr3⟩
theorem Fwsub {A : Nat} {q : Q} {l : List UInt8} {x : SubL} {cs : List Value} {p : Nat} {H : Heap} {O : Nat → Prop} (h : WrAt p H A q l) (hp : p ≤ A) (hx : SubE O H x cs) (hO : ∀ B, O B → B < A) (hb : l.length + (subB x).length ≤ 1099511627776) :
    ∃ H' q', F 29 #[ptr0 A 1, .agg cs.toArray] p H = some (.returned (.tuple #[]), H') ∧ WrAt p H' A q' (l ++ subB x) ∧ FrW A q q' H H' := by
  rw [F, F_loud (f := 29) (X := X) (cl := cl) rfl rfl rfl Tryz.func29 rfl, Tryz.results29]
  have hA := h.lt
  obtain ⟨qf, rfl, hcf, hqf⟩ := hx
  have hqf2 : ∀ B, inq qf B → B < A ∧ B < H.length := fun B hB => ⟨hO B (hqf B hB), by have := hO B (hqf B hB); omega⟩
  have hokf : okq qf x.feeds.length := hcf.okq (s := 1) (by simp) (by omega)
  simp only [subB, List.length_append, numB_len, textB_len, ints_len, offB_len] at hb
  have w0 := h.box ⟨0, 29, #[str x.addr, slv qf x.feeds.length 1, str x.zone, str x.cron, i64v x.start, i64v x.cursor, i64v x.no, i64v x.clock, .bool x.off], 0, false, []⟩
  have fr0 : FrW A q q (H ++ [⟨0, 29, #[str x.addr, slv qf x.feeds.length 1, str x.zone, str x.cron, i64v x.start, i64v x.cursor, i64v x.no, i64v x.clock, .bool x.off], 0, false, []⟩]) (H ++ [⟨0, 29, #[str x.addr, slv qf x.feeds.length 1, str x.zone, str x.cron, i64v x.start, i64v x.cursor, i64v x.no, i64v x.clock, .bool x.off], 0, false, []⟩]) := FrW.refl _ _ _
  have hbl0 := fr0.box h
  simp (disch := first | assumption | omega | (simp only [go_sem] <;> omega) | fail) only [go_sem, SubL.cells, hbl0]
  have frH := FrW.push A q H [⟨0, 29, #[str x.addr, slv qf x.feeds.length 1, str x.zone, str x.cron, i64v x.start, i64v x.cursor, i64v x.no, i64v x.clock, .bool x.off], 0, false, []⟩]
  generalize hH0 : H ++ _ = H0 at *
  have hl0 : H0.length = H.length + 1 := by rw [← hH0]; simp
  obtain ⟨H1, q1, e1, w1, g1⟩ := FtextsB (xs := [x.addr]) w0 hp (by (try simp only [List.length_append, List.length_cons, List.length_nil, List.flatMap_cons, List.flatMap_nil, numB_len, textB_len, ints_len, offB_len]); omega)
  have e1' : F 70 #[.pointer (some ⟨A, 0, some 1⟩), .slice (some ⟨H.length + 1, 0, some 1⟩) 1 1] p (H0 ++ [⟨0, 9, #[str x.addr], 0, false, []⟩]) = some (.returned (.tuple #[]), H1) := by
    rw [← hl0]
    exact e1
  simp only [List.flatMap_cons, List.flatMap_nil, List.append_nil, List.append_assoc] at w1
  have fr1 := fr0.trans g1
  have hbl1 : H1[H.length]? = some ⟨0, 29, #[str x.addr, slv qf x.feeds.length 1, str x.zone, str x.cron, i64v x.start, i64v x.cursor, i64v x.no, i64v x.clock, .bool x.off], 0, false, []⟩ := by
    have fb := fr1
    rw [← hH0] at fb
    exact fb.box h
  have hcf1 := (frH.trans fr1).cat hcf hqf2 h.ne
  simp (disch := first | assumption | omega | (simp only [go_sem] <;> omega) | fail) only [go_sem, e1', hbl1]
  obtain ⟨H2, q2, e2, w2, g2⟩ := FnumbersB (xs := [x.feeds.length]) w1 hp (by (try simp only [List.length_append, List.length_cons, List.length_nil, List.flatMap_cons, List.flatMap_nil, numB_len, textB_len, ints_len, offB_len]); omega)
  have e2' : F 32 #[.pointer (some ⟨A, 0, some 1⟩), .slice (some ⟨H1.length, 0, some 1⟩) 1 1] p (H1 ++ [⟨0, 3, #[.int .i64 (x.feeds.length)], 0, false, []⟩]) = some (.returned (.tuple #[]), H2) := e2
  simp only [List.flatMap_cons, List.flatMap_nil, List.append_nil, List.append_assoc] at w2
  have fr2 := fr1.trans g2
  have hbl2 : H2[H.length]? = some ⟨0, 29, #[str x.addr, slv qf x.feeds.length 1, str x.zone, str x.cron, i64v x.start, i64v x.cursor, i64v x.no, i64v x.clock, .bool x.off], 0, false, []⟩ := by
    have fb := fr2
    rw [← hH0] at fb
    exact fb.box h
  have hcf2 := (frH.trans fr2).cat hcf hqf2 h.ne
  simp (disch := first | assumption | omega | (simp only [go_sem] <;> omega) | fail) only [go_sem, e2', hbl2]
  obtain ⟨H3, q3, e3, w3, g3⟩ := Fnumbers w2 hp hcf2 (fun B hB => ⟨by have := (hqf2 B hB).1; omega, fun hc => by have := w2.ne B hc; have := (hqf2 B hB).1; omega, by have := (hqf2 B hB).2; have := fr2.le; have := frH.le; omega⟩) (by (try simp only [List.length_append, List.length_cons, List.length_nil, List.flatMap_cons, List.flatMap_nil, numB_len, textB_len, ints_len, offB_len]); omega)
  have e3' : F 32 #[.pointer (some ⟨A, 0, some 1⟩), slv qf x.feeds.length 1] p H2 = some (.returned (.tuple #[]), H3) := e3
  simp only [List.flatMap_cons, List.flatMap_nil, List.append_nil, List.append_assoc] at w3
  have fr3 := fr2.trans g3
  have hbl3 : H3[H.length]? = some ⟨0, 29, #[str x.addr, slv qf x.feeds.length 1, str x.zone, str x.cron, i64v x.start, i64v x.cursor, i64v x.no, i64v x.clock, .bool x.off], 0, false, []⟩ := by
    have fb := fr3
    rw [← hH0] at fb
    exact fb.box h
  have hcf3 := (frH.trans fr3).cat hcf hqf2 h.ne
  simp (disch := first | assumption | omega | (simp only [go_sem] <;> omega) | fail) only [go_sem, e3', hbl3]
  obtain ⟨H4, q4, e4, w4, g4⟩ := FtextsB (xs := [x.zone, x.cron]) w3 hp (by (try simp only [List.length_append, List.length_cons, List.length_nil, List.flatMap_cons, List.flatMap_nil, numB_len, textB_len, ints_len, offB_len]); omega)
  have e4' : F 70 #[.pointer (some ⟨A, 0, some 1⟩), .slice (some ⟨H3.length, 0, some 2⟩) 2 1] p (H3 ++ [⟨0, 9, #[str x.zone, str x.cron], 0, false, []⟩]) = some (.returned (.tuple #[]), H4) := e4
  simp only [List.flatMap_cons, List.flatMap_nil, List.append_nil, List.append_assoc] at w4
  have fr4 := fr3.trans g4
  have hbl4 : H4[H.length]? = some ⟨0, 29, #[str x.addr, slv qf x.feeds.length 1, str x.zone, str x.cron, i64v x.start, i64v x.cursor, i64v x.no, i64v x.clock, .bool x.off], 0, false, []⟩ := by
    have fb := fr4
    rw [← hH0] at fb
    exact fb.box h
  have hcf4 := (frH.trans fr4).cat hcf hqf2 h.ne
  simp (disch := first | assumption | omega | (simp only [go_sem] <;> omega) | fail) only [go_sem, e4', hbl4]
  obtain ⟨H5, q5, e5, w5, g5⟩ := FnumbersB (xs := [x.start, x.cursor, x.no, x.clock]) w4 hp (by (try simp only [List.length_append, List.length_cons, List.length_nil, List.flatMap_cons, List.flatMap_nil, numB_len, textB_len, ints_len, offB_len]); omega)
  have e5' : F 32 #[.pointer (some ⟨A, 0, some 1⟩), .slice (some ⟨H4.length, 0, some 4⟩) 4 1] p (H4 ++ [⟨0, 3, #[.int .i64 (x.start), .int .i64 (x.cursor), .int .i64 (x.no), .int .i64 (x.clock)], 0, false, []⟩]) = some (.returned (.tuple #[]), H5) := e5
  simp only [List.flatMap_cons, List.flatMap_nil, List.append_nil, List.append_assoc] at w5
  have fr5 := fr4.trans g5
  have hbl5 : H5[H.length]? = some ⟨0, 29, #[str x.addr, slv qf x.feeds.length 1, str x.zone, str x.cron, i64v x.start, i64v x.cursor, i64v x.no, i64v x.clock, .bool x.off], 0, false, []⟩ := by
    have fb := fr5
    rw [← hH0] at fb
    exact fb.box h
  have hcf5 := (frH.trans fr5).cat hcf hqf2 h.ne
  simp (disch := first | assumption | omega | (simp only [go_sem] <;> omega) | fail) only [go_sem, e5', hbl5]
  obtain ⟨ew, fw, hfw, hcell⟩ := w5.cell
  have hlt5 := w5.lt
  have hfin : ∀ (b : UInt8), offB x.off = [b] → ∃ q9 H9, appW Tryz.prog p 33 33 (slv q5 (l ++ (textB x.addr ++ (numB x.feeds.length ++ (x.feeds.flatMap numB ++ (textB x.zone ++ (textB x.cron ++ (numB x.start ++ (numB x.cursor ++ (numB x.no ++ numB x.clock))))))))).length 1) (.slice (some ⟨H5.length, 0, some 1⟩) 1 1) (H5 ++ [⟨0, 5, #[u8v b], 0, false, []⟩]) = some (slv q9 ((l ++ (textB x.addr ++ (numB x.feeds.length ++ (x.feeds.flatMap numB ++ (textB x.zone ++ (textB x.cron ++ (numB x.start ++ (numB x.cursor ++ (numB x.no ++ numB x.clock))))))))).length + 1) 1, H9) ∧ H9[A]? = some ⟨0, ew, #[slv q5 (l ++ (textB x.addr ++ (numB x.feeds.length ++ (x.feeds.flatMap numB ++ (textB x.zone ++ (textB x.cron ++ (numB x.start ++ (numB x.cursor ++ (numB x.no ++ numB x.clock))))))))).length 1], fw, false, []⟩ ∧
      WrAt p (H9.set A ⟨0, ew, #[slv q9 ((l ++ (textB x.addr ++ (numB x.feeds.length ++ (x.feeds.flatMap numB ++ (textB x.zone ++ (textB x.cron ++ (numB x.start ++ (numB x.cursor ++ (numB x.no ++ numB x.clock))))))))).length + 1) 1], 1, false, []⟩) A q9 (l ++ subB x) ∧ FrW A q5 q9 H5 (H9.set A ⟨0, ew, #[slv q9 ((l ++ (textB x.addr ++ (numB x.feeds.length ++ (x.feeds.flatMap numB ++ (textB x.zone ++ (textB x.cron ++ (numB x.start ++ (numB x.cursor ++ (numB x.no ++ numB x.clock))))))))).length + 1) 1], 1, false, []⟩) := by
    intro b hb2
    have hown : OwnS p (H5 ++ [⟨0, 5, #[u8v b], 0, false, []⟩]) q5 (u8s (l ++ (textB x.addr ++ (numB x.feeds.length ++ (x.feeds.flatMap numB ++ (textB x.zone ++ (textB x.cron ++ (numB x.start ++ (numB x.cursor ++ (numB x.no ++ numB x.clock)))))))))) := w5.own.keep fun B hB => List.getElem?_append_left (w5.own.lt hB).2
    have hsrc : srcOf (H5 ++ [⟨0, 5, #[u8v b], 0, false, []⟩]) 1 (.slice (some ⟨H5.length, 0, some 1⟩) 1 1) = some ((u8s [b]).toArray, 1) := by
      have hcat : CAt (H5 ++ [⟨0, 5, #[u8v b], 0, false, []⟩]) (some (H5.length, 0, 1)) (u8s [b]) :=
        rd_iff.2 ⟨⟨0, 5, #[u8v b], 0, false, []⟩, by simp, ⟨rfl, Nat.zero_le _, by simp, by simp⟩, by simp⟩
      exact src_slv (s := 1) (len := 1) hcat rfl (by omega)
    obtain ⟨q9, H9, a1, a2, a3, a4, a5, a6⟩ := app_own (P := Tryz.prog) (T' := 33) (st := 33) (len := (l ++ (textB x.addr ++ (numB x.feeds.length ++ (x.feeds.flatMap numB ++ (textB x.zone ++ (textB x.cron ++ (numB x.start ++ (numB x.cursor ++ (numB x.no ++ numB x.clock))))))))).length) (m := 1) Tryz.underlying33 ei33 (by omega) ap33 (by simp; omega) hown (by simp) hsrc (by simp) (by (try simp only [List.length_append, List.length_cons, List.length_nil, List.flatMap_cons, List.flatMap_nil, numB_len, textB_len, ints_len, offB_len]); omega)
    have hadd := WrAt.add (p := p) (H := H5) (H2 := H9) [b] w5 a2 (by simp at a3; omega) (fun C hC hn => by rw [a4 C (by simp; omega) hn]; exact List.getElem?_append_left hC) (fun C hC => (a5 C hC).imp id fun h => by simp at h; omega) ew
    refine ⟨q9, H9, a1, ?_, ?_, hadd.2⟩
    · rw [a4 A (by simp; omega) (fun hc => by have := w5.ne A hc; omega), List.getElem?_append_left hlt5, hcell]
    · have := hadd.1
      simp only [List.append_assoc, ← hb2] at this
      exact this
  cases hoff : x.off with
  | true =>
    obtain ⟨q9, H9, a1, a2, a3, a4⟩ := hfin 1 (by rw [hoff]; rfl)
    have a1' : appW Tryz.prog p 33 33 (slv q5 (l ++ (textB x.addr ++ (numB x.feeds.length ++ (x.feeds.flatMap numB ++ (textB x.zone ++ (textB x.cron ++ (numB x.start ++ (numB x.cursor ++ (numB x.no ++ numB x.clock))))))))).length 1) (.slice (some ⟨H5.length, 0, some 1⟩) 1 1) (H5 ++ [⟨0, 5, #[.int .u8 1], 0, false, []⟩]) = some (slv q9 ((l ++ (textB x.addr ++ (numB x.feeds.length ++ (x.feeds.flatMap numB ++ (textB x.zone ++ (textB x.cron ++ (numB x.start ++ (numB x.cursor ++ (numB x.no ++ numB x.clock))))))))).length + 1) 1, H9) := a1
    generalize (l ++ (textB x.addr ++ (numB x.feeds.length ++ (x.feeds.flatMap numB ++ (textB x.zone ++ (textB x.cron ++ (numB x.start ++ (numB x.cursor ++ (numB x.no ++ numB x.clock))))))))).length = n at *
    simp (disch := first | assumption | omega | (simp only [go_sem] <;> omega) | fail) only [go_sem, hoff, hcell, a1', a2]
    exact ⟨_, q9, rfl, a3, (frH.trans fr5).trans a4⟩
  | false =>
    obtain ⟨q9, H9, a1, a2, a3, a4⟩ := hfin 0 (by rw [hoff]; rfl)
    have a1' : appW Tryz.prog p 33 33 (slv q5 (l ++ (textB x.addr ++ (numB x.feeds.length ++ (x.feeds.flatMap numB ++ (textB x.zone ++ (textB x.cron ++ (numB x.start ++ (numB x.cursor ++ (numB x.no ++ numB x.clock))))))))).length 1) (.slice (some ⟨H5.length, 0, some 1⟩) 1 1) (H5 ++ [⟨0, 5, #[.int .u8 0], 0, false, []⟩]) = some (slv q9 ((l ++ (textB x.addr ++ (numB x.feeds.length ++ (x.feeds.flatMap numB ++ (textB x.zone ++ (textB x.cron ++ (numB x.start ++ (numB x.cursor ++ (numB x.no ++ numB x.clock))))))))).length + 1) 1, H9) := a1
    generalize (l ++ (textB x.addr ++ (numB x.feeds.length ++ (x.feeds.flatMap numB ++ (textB x.zone ++ (textB x.cron ++ (numB x.start ++ (numB x.cursor ++ (numB x.no ++ numB x.clock))))))))).length = n at *
    simp (disch := first | assumption | omega | (simp only [go_sem] <;> omega) | fail) only [go_sem, hoff, hcell, a1', a2]
    exact ⟨_, q9, rfl, a3, (frH.trans fr5).trans a4⟩
theorem flat_len {α : Type} (f : α → List UInt8) (h : ∀ x, 1 ≤ (f x).length) : ∀ xs : List α, xs.length ≤ (xs.flatMap f).length
  | [] => Nat.le_refl _
  | x :: xs => by
    have := flat_len f h xs
    have := h x
    rw [List.flatMap_cons, List.length_append, List.length_cons]
    omega
theorem subB_pos (x : SubL) : 1 ≤ (subB x).length := by simp only [subB, List.length_append, textB_len]; omega
theorem itemB_pos (x : ItemL) : 1 ≤ (itemB x).length := by simp only [itemB, List.length_append, numB_len]; omega
theorem outB_pos (x : OutL) : 1 ≤ (outB x).length := by simp only [outB, List.length_append, numB_len]; omega
theorem Fwlist_sub {A : Nat} {q : Q} {l : List UInt8} {xs : List SubL} {v : Value} {p : Nat} {H : Heap} {O : Nat → Prop} (h : WrAt p H A q l) (hp : p ≤ A) (hx : ListAt SubE 9 O H xs v) (hO : ∀ B, O B → B < A) (hb : l.length + (listB subB xs).length ≤ 1099511627776) :
    ∃ H' q', F 28 #[ptr0 A 1, v, .func (.func 29) #[ptr0 A 1] #[]] p H = some (.returned (.tuple #[]), H') ∧ WrAt p H' A q' (l ++ listB subB xs) ∧ FrW A q q' H H' := by
  rw [F, F_loud (f := 28) (X := X) (cl := cl) rfl rfl rfl Tryz.func28 rfl, Tryz.results28]
  have hA := h.lt
  obtain ⟨qs, cs, rfl, hcs, hcl, hqs, hLC⟩ := hx
  have hok : okq qs xs.length := hcs.okq hcl (by omega)
  have hxl := flat_len subB subB_pos xs
  rw [listB, List.length_append, numB_len] at hb
  obtain ⟨H1, q1, e1, w1, f1⟩ := FnumbersB (xs := [(xs.length : Int)]) h hp (by simp; omega)
  have e1' : F 32 #[.pointer (some ⟨A, 0, some 1⟩), .slice (some ⟨H.length, 0, some 1⟩) 1 1] p (H ++ [⟨0, 3, #[.int .i64 xs.length], 0, false, []⟩]) = some (.returned (.tuple #[]), H1) := e1
  simp only [List.flatMap_cons, List.flatMap_nil, List.append_nil] at w1
  simp (disch := first | assumption | omega | (simp only [go_sem] <;> omega) | fail) only [go_sem, e1']
  generalize hL : Code.loop _ = L
  have key : ∀ (ys : List SubL) (i : Nat) (t : Nat → Value) (H1 : Heap) (q1 : Q) (w : List UInt8), xs.drop i = ys → i ≤ xs.length → WrAt p H1 A q1 (l ++ w) → FrW A q q1 H H1 → w ++ ys.flatMap subB = listB subB xs → t 15 = .int .i64 i → t 14 = .int .i64 xs.length → t 13 = slv qs xs.length 9 → t 2 = .func (.func 29) #[ptr0 A 1] #[] →
      ∃ t' H' q', limR Tryz.prog cl X L p ⟨t, [], H1⟩ = some (.exit 0, ⟨t', [], H'⟩) ∧ WrAt p H' A q' (l ++ listB subB xs) ∧ FrW A q q' H H' := by
    intro ys
    induction ys with
    | nil =>
      intro i t H1 q1 w hd hi hw hf hw1 h15 h14 h13 h2
      have hlen : xs.length ≤ i := List.drop_eq_nil_iff.1 hd
      have hlt : ¬ (i : Int) < xs.length := by omega
      rw [← hL, E_loop, hL]
      simp (disch := first | assumption | omega | (simp only [go_sem] <;> omega) | fail) only [go_sem, h15, h14, h13, h2, hlt]
      refine ⟨_, _, q1, rfl, ?_, hf⟩
      rw [List.flatMap_nil, List.append_nil] at hw1
      rw [← hw1]
      exact hw
    | cons y ys ih =>
      intro i t H1 q1 w hd hi hw hf hw1 h15 h14 h13 h2
      have hlt' : i < xs.length := by
        rcases Nat.lt_or_ge i xs.length with h | h
        · exact h
        · rw [List.drop_of_length_le h] at hd; cases hd
      have hlt : (i : Int) < xs.length := by omega
      have hy : xs[i]? = some y := by
        rw [List.drop_eq_getElem_cons hlt'] at hd
        injection hd with h1 _
        rw [List.getElem?_eq_getElem hlt', h1]
      have hd' : xs.drop (i + 1) = ys := by
        rw [List.drop_eq_getElem_cons hlt'] at hd
        injection hd
      have hkeep : ∀ B, O B → H1[B]? = H[B]? := fun B hB => by
        have hBA := hO B hB
        exact hf.keep B (by omega) (by omega) fun hc => by have := h.ne B hc; omega
      have hs1 : CAt H1 qs cs := hcs.keep fun B hB => hkeep B (hqs B hB)
      have hE : SubE O H1 y ((cs.drop (i * 9)).take 9) := SubE.move (fun B hB => ⟨hB, hkeep B hB⟩) (LC.nth SubE.len hLC hy)
      have hq0 : qs ≠ none := fun e => by have := hok e; omega
      have hld := ld_ptqA (P := Tryz.prog) (T := 29) (o := i * 9) sz29 ag29 hs1 (by rw [hcl]; have := Nat.mul_le_mul_right 9 hlt'; rw [Nat.succ_mul] at this; omega) hq0
      have hwl : w.length + (subB y).length ≤ (listB subB xs).length := by
        rw [← hw1, List.flatMap_cons, List.length_append, List.length_append]
        omega
      rw [listB, List.length_append, numB_len] at hwl
      obtain ⟨qf, hc, hcf, hqf⟩ := hE
      rw [hc] at hld
      simp only [SubL.cells] at hld
      have wZ : WrAt p ((H1 ++ [(⟨0, 29, #[str [], .slice none 0 0, str [], str [], i64v 0, i64v 0, i64v 0, i64v 0, .bool false], 0, false, []⟩ : Blk)]).set H1.length ⟨0, 29, #[str y.addr, slv qf y.feeds.length 1, str y.zone, str y.cron, i64v y.start, i64v y.cursor, i64v y.no, i64v y.clock, .bool y.off], 9, false, []⟩) A q1 (l ++ w) := hw.keep fun B hB => by
        have hBl : B < H1.length := by
          rcases hB with rfl | hB
          · exact hw.lt
          · exact (hw.own.lt hB).2
        rw [List.getElem?_set_ne (by omega), List.getElem?_append_left hBl]
      have fZ : FrW A q1 q1 H1 ((H1 ++ [(⟨0, 29, #[str [], .slice none 0 0, str [], str [], i64v 0, i64v 0, i64v 0, i64v 0, .bool false], 0, false, []⟩ : Blk)]).set H1.length ⟨0, 29, #[str y.addr, slv qf y.feeds.length 1, str y.zone, str y.cron, i64v y.start, i64v y.cursor, i64v y.no, i64v y.clock, .bool y.off], 9, false, []⟩) :=
        ⟨by simp, fun B h1 h2 h3 => by rw [List.getElem?_set_ne (by omega), List.getElem?_append_left h1], fun _ h => .inl h⟩
      have hgZ : ((H1 ++ [(⟨0, 29, #[str [], .slice none 0 0, str [], str [], i64v 0, i64v 0, i64v 0, i64v 0, .bool false], 0, false, []⟩ : Blk)]).set H1.length ⟨0, 29, #[str y.addr, slv qf y.feeds.length 1, str y.zone, str y.cron, i64v y.start, i64v y.cursor, i64v y.no, i64v y.clock, .bool y.off], 9, false, []⟩)[H1.length]? = some ⟨0, 29, #[str y.addr, slv qf y.feeds.length 1, str y.zone, str y.cron, i64v y.start, i64v y.cursor, i64v y.no, i64v y.clock, .bool y.off], 9, false, []⟩ := List.getElem?_set_self (by simp)
      have hpH1 : p ≤ H1.length := by have := hf.le; omega
      rw [← hL, E_loop, hL]
      simp (disch := first | assumption | omega | (simp only [go_sem] <;> omega) | fail) only [go_sem, h15, h14, h13, h2, hlt, hld, List.getElem?_concat_length, hgZ]
      generalize hZ : List.set (H1 ++ _) H1.length _ = Z at *
      clear hZ
      obtain ⟨H2, q2, e2, w2, f2⟩ := Fwsub (x := y) wZ hp ⟨qf, rfl, hcf.keep fun B hB => fZ.keep B (by have := hO B (hqf B hB); have := hf.le; omega) (by have := hO B (hqf B hB); omega) (fun hc => by have := hO B (hqf B hB); have := hw.ne B hc; omega), hqf⟩ hO (by rw [List.length_append]; omega)
      have e2' : F 29 #[.pointer (some ⟨A, 0, some 1⟩), .agg #[str y.addr, slv qf y.feeds.length 1, str y.zone, str y.cron, i64v y.start, i64v y.cursor, i64v y.no, i64v y.clock, .bool y.off]] p Z = some (.returned (.tuple #[]), H2) := e2
      simp (disch := first | assumption | omega | (simp only [go_sem] <;> omega) | fail) only [go_sem, e2', h15]
      generalize hT : upd _ 15 _ = T
      exact ih (i + 1) T H2 q2 (w ++ subB y) hd' (by omega) (by rw [← List.append_assoc]; exact w2) ((hf.trans fZ).trans f2) (by rw [← hw1, List.flatMap_cons, List.append_assoc]) (by rw [← hT]; simp only [go_sem]; rfl) (by rw [← hT]; simp only [go_sem, h14]) (by rw [← hT]; simp only [go_sem, h13]) (by rw [← hT]; simp only [go_sem, h2])
  generalize hT : upd _ 15 _ = T
  obtain ⟨t', H', q', k1, k2, k3⟩ := key xs 0 T H1 q1 (numB xs.length) rfl (Nat.zero_le _) w1 f1 rfl (by rw [← hT]; simp only [go_sem]; try rfl) (by rw [← hT]; simp only [go_sem]) (by rw [← hT]; simp only [go_sem]) (by rw [← hT]; simp only [go_sem])
  rw [k1]
  simp only [go_sem]
  exact ⟨H', q', rfl, k2, k3⟩
theorem Fwlist_item {A : Nat} {q : Q} {l : List UInt8} {xs : List ItemL} {v : Value} {p : Nat} {H : Heap} {O : Nat → Prop} (h : WrAt p H A q l) (hp : p ≤ A) (hx : ListAt ItemE 7 O H xs v) (hO : ∀ B, O B → B < A) (hb : l.length + (listB itemB xs).length ≤ 1099511627776) :
    ∃ H' q', F 30 #[ptr0 A 1, v, .func (.func 31) #[ptr0 A 1] #[]] p H = some (.returned (.tuple #[]), H') ∧ WrAt p H' A q' (l ++ listB itemB xs) ∧ FrW A q q' H H' := by
  rw [F, F_loud (f := 30) (X := X) (cl := cl) rfl rfl rfl Tryz.func30 rfl, Tryz.results30]
  have hA := h.lt
  obtain ⟨qs, cs, rfl, hcs, hcl, hqs, hLC⟩ := hx
  have hok : okq qs xs.length := hcs.okq hcl (by omega)
  have hxl := flat_len itemB itemB_pos xs
  rw [listB, List.length_append, numB_len] at hb
  obtain ⟨H1, q1, e1, w1, f1⟩ := FnumbersB (xs := [(xs.length : Int)]) h hp (by simp; omega)
  have e1' : F 32 #[.pointer (some ⟨A, 0, some 1⟩), .slice (some ⟨H.length, 0, some 1⟩) 1 1] p (H ++ [⟨0, 3, #[.int .i64 xs.length], 0, false, []⟩]) = some (.returned (.tuple #[]), H1) := e1
  simp only [List.flatMap_cons, List.flatMap_nil, List.append_nil] at w1
  simp (disch := first | assumption | omega | (simp only [go_sem] <;> omega) | fail) only [go_sem, e1']
  generalize hL : Code.loop _ = L
  have key : ∀ (ys : List ItemL) (i : Nat) (t : Nat → Value) (H1 : Heap) (q1 : Q) (w : List UInt8), xs.drop i = ys → i ≤ xs.length → WrAt p H1 A q1 (l ++ w) → FrW A q q1 H H1 → w ++ ys.flatMap itemB = listB itemB xs → t 15 = .int .i64 i → t 14 = .int .i64 xs.length → t 13 = slv qs xs.length 7 → t 2 = .func (.func 31) #[ptr0 A 1] #[] →
      ∃ t' H' q', limR Tryz.prog cl X L p ⟨t, [], H1⟩ = some (.exit 0, ⟨t', [], H'⟩) ∧ WrAt p H' A q' (l ++ listB itemB xs) ∧ FrW A q q' H H' := by
    intro ys
    induction ys with
    | nil =>
      intro i t H1 q1 w hd hi hw hf hw1 h15 h14 h13 h2
      have hlen : xs.length ≤ i := List.drop_eq_nil_iff.1 hd
      have hlt : ¬ (i : Int) < xs.length := by omega
      rw [← hL, E_loop, hL]
      simp (disch := first | assumption | omega | (simp only [go_sem] <;> omega) | fail) only [go_sem, h15, h14, h13, h2, hlt]
      refine ⟨_, _, q1, rfl, ?_, hf⟩
      rw [List.flatMap_nil, List.append_nil] at hw1
      rw [← hw1]
      exact hw
    | cons y ys ih =>
      intro i t H1 q1 w hd hi hw hf hw1 h15 h14 h13 h2
      have hlt' : i < xs.length := by
        rcases Nat.lt_or_ge i xs.length with h | h
        · exact h
        · rw [List.drop_of_length_le h] at hd; cases hd
      have hlt : (i : Int) < xs.length := by omega
      have hy : xs[i]? = some y := by
        rw [List.drop_eq_getElem_cons hlt'] at hd
        injection hd with h1 _
        rw [List.getElem?_eq_getElem hlt', h1]
      have hd' : xs.drop (i + 1) = ys := by
        rw [List.drop_eq_getElem_cons hlt'] at hd
        injection hd
      have hkeep : ∀ B, O B → H1[B]? = H[B]? := fun B hB => by
        have hBA := hO B hB
        exact hf.keep B (by omega) (by omega) fun hc => by have := h.ne B hc; omega
      have hs1 : CAt H1 qs cs := hcs.keep fun B hB => hkeep B (hqs B hB)
      have hE : ItemE O H1 y ((cs.drop (i * 7)).take 7) := ItemE.move (fun B hB => ⟨hB, hkeep B hB⟩) (LC.nth ItemE.len hLC hy)
      have hq0 : qs ≠ none := fun e => by have := hok e; omega
      have hld := ld_ptqA (P := Tryz.prog) (T := 48) (o := i * 7) sz48 ag48 hs1 (by rw [hcl]; have := Nat.mul_le_mul_right 7 hlt'; rw [Nat.succ_mul] at this; omega) hq0
      have hwl : w.length + (itemB y).length ≤ (listB itemB xs).length := by
        rw [← hw1, List.flatMap_cons, List.length_append, List.length_append]
        omega
      rw [listB, List.length_append, numB_len] at hwl
      have hc : _ = y.cells := hE
      rw [hc] at hld
      simp only [ItemL.cells] at hld
      have wZ : WrAt p ((H1 ++ [(⟨0, 48, #[i64v 0, i64v 0, str [], str [], str [], str [], i64v 0], 0, false, []⟩ : Blk)]).set H1.length ⟨0, 48, #[i64v y.feed, i64v y.seq, str y.id, str y.title, str y.link, str y.text, i64v y.at_], 7, false, []⟩) A q1 (l ++ w) := hw.keep fun B hB => by
        have hBl : B < H1.length := by
          rcases hB with rfl | hB
          · exact hw.lt
          · exact (hw.own.lt hB).2
        rw [List.getElem?_set_ne (by omega), List.getElem?_append_left hBl]
      have fZ : FrW A q1 q1 H1 ((H1 ++ [(⟨0, 48, #[i64v 0, i64v 0, str [], str [], str [], str [], i64v 0], 0, false, []⟩ : Blk)]).set H1.length ⟨0, 48, #[i64v y.feed, i64v y.seq, str y.id, str y.title, str y.link, str y.text, i64v y.at_], 7, false, []⟩) :=
        ⟨by simp, fun B h1 h2 h3 => by rw [List.getElem?_set_ne (by omega), List.getElem?_append_left h1], fun _ h => .inl h⟩
      have hgZ : ((H1 ++ [(⟨0, 48, #[i64v 0, i64v 0, str [], str [], str [], str [], i64v 0], 0, false, []⟩ : Blk)]).set H1.length ⟨0, 48, #[i64v y.feed, i64v y.seq, str y.id, str y.title, str y.link, str y.text, i64v y.at_], 7, false, []⟩)[H1.length]? = some ⟨0, 48, #[i64v y.feed, i64v y.seq, str y.id, str y.title, str y.link, str y.text, i64v y.at_], 7, false, []⟩ := List.getElem?_set_self (by simp)
      have hpH1 : p ≤ H1.length := by have := hf.le; omega
      rw [← hL, E_loop, hL]
      simp (disch := first | assumption | omega | (simp only [go_sem] <;> omega) | fail) only [go_sem, h15, h14, h13, h2, hlt, hld, List.getElem?_concat_length, hgZ]
      generalize hZ : List.set (H1 ++ _) H1.length _ = Z at *
      clear hZ
      obtain ⟨H2, q2, e2, w2, f2⟩ := Fwitem (x := y) wZ hp (show ItemE O Z y y.cells from rfl) hO (by rw [List.length_append]; omega)
      have e2' : F 31 #[.pointer (some ⟨A, 0, some 1⟩), .agg #[i64v y.feed, i64v y.seq, str y.id, str y.title, str y.link, str y.text, i64v y.at_]] p Z = some (.returned (.tuple #[]), H2) := e2
      simp (disch := first | assumption | omega | (simp only [go_sem] <;> omega) | fail) only [go_sem, e2', h15]
      generalize hT : upd _ 15 _ = T
      exact ih (i + 1) T H2 q2 (w ++ itemB y) hd' (by omega) (by rw [← List.append_assoc]; exact w2) ((hf.trans fZ).trans f2) (by rw [← hw1, List.flatMap_cons, List.append_assoc]) (by rw [← hT]; simp only [go_sem]; rfl) (by rw [← hT]; simp only [go_sem, h14]) (by rw [← hT]; simp only [go_sem, h13]) (by rw [← hT]; simp only [go_sem, h2])
  generalize hT : upd _ 15 _ = T
  obtain ⟨t', H', q', k1, k2, k3⟩ := key xs 0 T H1 q1 (numB xs.length) rfl (Nat.zero_le _) w1 f1 rfl (by rw [← hT]; simp only [go_sem]; try rfl) (by rw [← hT]; simp only [go_sem]) (by rw [← hT]; simp only [go_sem]) (by rw [← hT]; simp only [go_sem])
  rw [k1]
  simp only [go_sem]
  exact ⟨H', q', rfl, k2, k3⟩
theorem Fwlist_out {A : Nat} {q : Q} {l : List UInt8} {xs : List OutL} {v : Value} {p : Nat} {H : Heap} {O : Nat → Prop} (h : WrAt p H A q l) (hp : p ≤ A) (hx : ListAt OutE 9 O H xs v) (hO : ∀ B, O B → B < A) (hb : l.length + (listB outB xs).length ≤ 1099511627776) :
    ∃ H' q', F 33 #[ptr0 A 1, v, .func (.func 34) #[ptr0 A 1] #[]] p H = some (.returned (.tuple #[]), H') ∧ WrAt p H' A q' (l ++ listB outB xs) ∧ FrW A q q' H H' := by
  rw [F, F_loud (f := 33) (X := X) (cl := cl) rfl rfl rfl Tryz.func33 rfl, Tryz.results33]
  have hA := h.lt
  obtain ⟨qs, cs, rfl, hcs, hcl, hqs, hLC⟩ := hx
  have hok : okq qs xs.length := hcs.okq hcl (by omega)
  have hxl := flat_len outB outB_pos xs
  rw [listB, List.length_append, numB_len] at hb
  obtain ⟨H1, q1, e1, w1, f1⟩ := FnumbersB (xs := [(xs.length : Int)]) h hp (by simp; omega)
  have e1' : F 32 #[.pointer (some ⟨A, 0, some 1⟩), .slice (some ⟨H.length, 0, some 1⟩) 1 1] p (H ++ [⟨0, 3, #[.int .i64 xs.length], 0, false, []⟩]) = some (.returned (.tuple #[]), H1) := e1
  simp only [List.flatMap_cons, List.flatMap_nil, List.append_nil] at w1
  simp (disch := first | assumption | omega | (simp only [go_sem] <;> omega) | fail) only [go_sem, e1']
  generalize hL : Code.loop _ = L
  have key : ∀ (ys : List OutL) (i : Nat) (t : Nat → Value) (H1 : Heap) (q1 : Q) (w : List UInt8), xs.drop i = ys → i ≤ xs.length → WrAt p H1 A q1 (l ++ w) → FrW A q q1 H H1 → w ++ ys.flatMap outB = listB outB xs → t 15 = .int .i64 i → t 14 = .int .i64 xs.length → t 13 = slv qs xs.length 9 → t 2 = .func (.func 34) #[ptr0 A 1] #[] →
      ∃ t' H' q', limR Tryz.prog cl X L p ⟨t, [], H1⟩ = some (.exit 0, ⟨t', [], H'⟩) ∧ WrAt p H' A q' (l ++ listB outB xs) ∧ FrW A q q' H H' := by
    intro ys
    induction ys with
    | nil =>
      intro i t H1 q1 w hd hi hw hf hw1 h15 h14 h13 h2
      have hlen : xs.length ≤ i := List.drop_eq_nil_iff.1 hd
      have hlt : ¬ (i : Int) < xs.length := by omega
      rw [← hL, E_loop, hL]
      simp (disch := first | assumption | omega | (simp only [go_sem] <;> omega) | fail) only [go_sem, h15, h14, h13, h2, hlt]
      refine ⟨_, _, q1, rfl, ?_, hf⟩
      rw [List.flatMap_nil, List.append_nil] at hw1
      rw [← hw1]
      exact hw
    | cons y ys ih =>
      intro i t H1 q1 w hd hi hw hf hw1 h15 h14 h13 h2
      have hlt' : i < xs.length := by
        rcases Nat.lt_or_ge i xs.length with h | h
        · exact h
        · rw [List.drop_of_length_le h] at hd; cases hd
      have hlt : (i : Int) < xs.length := by omega
      have hy : xs[i]? = some y := by
        rw [List.drop_eq_getElem_cons hlt'] at hd
        injection hd with h1 _
        rw [List.getElem?_eq_getElem hlt', h1]
      have hd' : xs.drop (i + 1) = ys := by
        rw [List.drop_eq_getElem_cons hlt'] at hd
        injection hd
      have hkeep : ∀ B, O B → H1[B]? = H[B]? := fun B hB => by
        have hBA := hO B hB
        exact hf.keep B (by omega) (by omega) fun hc => by have := h.ne B hc; omega
      have hs1 : CAt H1 qs cs := hcs.keep fun B hB => hkeep B (hqs B hB)
      have hE : OutE O H1 y ((cs.drop (i * 9)).take 9) := OutE.move (fun B hB => ⟨hB, hkeep B hB⟩) (LC.nth OutE.len hLC hy)
      have hq0 : qs ≠ none := fun e => by have := hok e; omega
      have hld := ld_ptqA (P := Tryz.prog) (T := 44) (o := i * 9) sz44 ag44 hs1 (by rw [hcl]; have := Nat.mul_le_mul_right 9 hlt'; rw [Nat.succ_mul] at this; omega) hq0
      have hwl : w.length + (outB y).length ≤ (listB outB xs).length := by
        rw [← hw1, List.flatMap_cons, List.length_append, List.length_append]
        omega
      rw [listB, List.length_append, numB_len] at hwl
      obtain ⟨qf, hc, hcf, hqf⟩ := hE
      rw [hc] at hld
      simp only [OutL.cells] at hld
      have wZ : WrAt p ((H1 ++ [(⟨0, 44, #[i64v 0, i64v 0, i64v 0, i64v 0, .slice none 0 0, i64v 0, i64v 0, i64v 0, i64v 0], 0, false, []⟩ : Blk)]).set H1.length ⟨0, 44, #[i64v y.sub, i64v y.no, i64v y.from_, i64v y.upto, slv qf y.mail.length 1, i64v y.cut, i64v y.tried, i64v y.next, i64v y.out], 9, false, []⟩) A q1 (l ++ w) := hw.keep fun B hB => by
        have hBl : B < H1.length := by
          rcases hB with rfl | hB
          · exact hw.lt
          · exact (hw.own.lt hB).2
        rw [List.getElem?_set_ne (by omega), List.getElem?_append_left hBl]
      have fZ : FrW A q1 q1 H1 ((H1 ++ [(⟨0, 44, #[i64v 0, i64v 0, i64v 0, i64v 0, .slice none 0 0, i64v 0, i64v 0, i64v 0, i64v 0], 0, false, []⟩ : Blk)]).set H1.length ⟨0, 44, #[i64v y.sub, i64v y.no, i64v y.from_, i64v y.upto, slv qf y.mail.length 1, i64v y.cut, i64v y.tried, i64v y.next, i64v y.out], 9, false, []⟩) :=
        ⟨by simp, fun B h1 h2 h3 => by rw [List.getElem?_set_ne (by omega), List.getElem?_append_left h1], fun _ h => .inl h⟩
      have hgZ : ((H1 ++ [(⟨0, 44, #[i64v 0, i64v 0, i64v 0, i64v 0, .slice none 0 0, i64v 0, i64v 0, i64v 0, i64v 0], 0, false, []⟩ : Blk)]).set H1.length ⟨0, 44, #[i64v y.sub, i64v y.no, i64v y.from_, i64v y.upto, slv qf y.mail.length 1, i64v y.cut, i64v y.tried, i64v y.next, i64v y.out], 9, false, []⟩)[H1.length]? = some ⟨0, 44, #[i64v y.sub, i64v y.no, i64v y.from_, i64v y.upto, slv qf y.mail.length 1, i64v y.cut, i64v y.tried, i64v y.next, i64v y.out], 9, false, []⟩ := List.getElem?_set_self (by simp)
      have hpH1 : p ≤ H1.length := by have := hf.le; omega
      rw [← hL, E_loop, hL]
      simp (disch := first | assumption | omega | (simp only [go_sem] <;> omega) | fail) only [go_sem, h15, h14, h13, h2, hlt, hld, List.getElem?_concat_length, hgZ]
      generalize hZ : List.set (H1 ++ _) H1.length _ = Z at *
      clear hZ
      obtain ⟨H2, q2, e2, w2, f2⟩ := Fwout (x := y) wZ hp ⟨qf, rfl, hcf.keep fun B hB => fZ.keep B (by have := hO B (hqf B hB); have := hf.le; omega) (by have := hO B (hqf B hB); omega) (fun hc => by have := hO B (hqf B hB); have := hw.ne B hc; omega), hqf⟩ hO (by rw [List.length_append]; omega)
      have e2' : F 34 #[.pointer (some ⟨A, 0, some 1⟩), .agg #[i64v y.sub, i64v y.no, i64v y.from_, i64v y.upto, slv qf y.mail.length 1, i64v y.cut, i64v y.tried, i64v y.next, i64v y.out]] p Z = some (.returned (.tuple #[]), H2) := e2
      simp (disch := first | assumption | omega | (simp only [go_sem] <;> omega) | fail) only [go_sem, e2', h15]
      generalize hT : upd _ 15 _ = T
      exact ih (i + 1) T H2 q2 (w ++ outB y) hd' (by omega) (by rw [← List.append_assoc]; exact w2) ((hf.trans fZ).trans f2) (by rw [← hw1, List.flatMap_cons, List.append_assoc]) (by rw [← hT]; simp only [go_sem]; rfl) (by rw [← hT]; simp only [go_sem, h14]) (by rw [← hT]; simp only [go_sem, h13]) (by rw [← hT]; simp only [go_sem, h2])
  generalize hT : upd _ 15 _ = T
  obtain ⟨t', H', q', k1, k2, k3⟩ := key xs 0 T H1 q1 (numB xs.length) rfl (Nat.zero_le _) w1 f1 rfl (by rw [← hT]; simp only [go_sem]; try rfl) (by rw [← hT]; simp only [go_sem]) (by rw [← hT]; simp only [go_sem]) (by rw [← hT]; simp only [go_sem])
  rw [k1]
  simp only [go_sem]
  exact ⟨H', q', rfl, k2, k3⟩
theorem FPut {s : StateL} {v : Value} {p : Nat} {H : Heap} {O : Nat → Prop} (hs : StateAt O H s v) (hO : ∀ B, O B → B < H.length) (hb : (putL s).length ≤ 1099511627776) :
    ∃ A n H', F 13 #[v] p H = some (.returned (.slice (some ⟨A, 0, some n⟩) (putL s).length 1), H') ∧ CAt H' (some (A, 0, n)) (u8s (putL s)) ∧ H.length ≤ A ∧ A < H'.length ∧ H.length ≤ H'.length ∧ ∀ B, B < H.length → H'[B]? = H[B]? := by
  obtain ⟨v1, v2, v3, rfl, h1, h2, h3⟩ := hs
  have hlen := hb
  simp only [putL, List.length_append, numB_len] at hlen
  rw [F, F_quiet (f := 13) (X := X) (cl := cl) rfl rfl rfl Tryz.func13 rfl, Tryz.results13]
  have o1 : ∃ q1 n1, v1 = slv q1 n1 9 := by obtain ⟨q, cs, e, _⟩ := h1; exact ⟨_, _, e⟩
  have o2 : ∃ q1 n1, v2 = slv q1 n1 7 := by obtain ⟨q, cs, e, _⟩ := h2; exact ⟨_, _, e⟩
  have o3 : ∃ q1 n1, v3 = slv q1 n1 9 := by obtain ⟨q, cs, e, _⟩ := h3; exact ⟨_, _, e⟩
  obtain ⟨qa, na, rfl⟩ := o1
  obtain ⟨qb, nb, rfl⟩ := o2
  obtain ⟨qc, nc, rfl⟩ := o3
  obtain ⟨Z, hZ⟩ : ∃ Z, Z = H ++ [(⟨0, 26, #[slv qa na 9, slv qb nb 7, i64v s.seq, slv qc nc 9, i64v s.now], 0, false, []⟩ : Blk), ⟨0, 69, #[.slice none 0 0], 0, false, []⟩] := ⟨_, rfl⟩
  have hZl : Z.length = H.length + 2 := by rw [hZ]; simp
  have hZk : ∀ B, B < H.length → Z[B]? = H[B]? := fun B hB => by rw [hZ]; exact List.getElem?_append_left hB
  have hb0 : (H ++ [(⟨0, 26, #[slv qa na 9, slv qb nb 7, i64v s.seq, slv qc nc 9, i64v s.now], 0, false, []⟩ : Blk), ⟨0, 69, #[.slice none 0 0], 0, false, []⟩])[H.length]? = some ⟨0, 26, #[slv qa na 9, slv qb nb 7, i64v s.seq, slv qc nc 9, i64v s.now], 0, false, []⟩ := by simp
  have w0 : WrAt H.length Z (H.length + 1) none [] := ⟨⟨69, 0, Nat.zero_le _, by rw [hZ]; simp [slv]⟩, rfl, fun B hB => by obtain ⟨o, n, hB⟩ := hB; cases hB⟩
  have f0 : FrW (H.length + 1) none none Z Z := FrW.refl _ _ _
  have hb0' : Z[H.length]? = some ⟨0, 26, #[slv qa na 9, slv qb nb 7, i64v s.seq, slv qc nc 9, i64v s.now], 0, false, []⟩ := by rw [hZ]; exact hb0
  have hn0 : ∀ B, ¬ inq none B := fun B hB => by obtain ⟨o, n, hB⟩ := hB; cases hB
  have hmv : ∀ (H' : Heap) (q' : Q), FrW (H.length + 1) none q' Z H' → ∀ B, O B → O B ∧ H'[B]? = H[B]? := fun H' q' f B hB => ⟨hB, (f.keep B (by have := hO B hB; omega) (by have := hO B hB; omega) (hn0 B)).trans (hZk B (hO B hB))⟩
  have hOA : ∀ B, O B → B < H.length + 1 := fun B hB => by have := hO B hB; omega
  simp (disch := first | assumption | omega | (simp only [go_sem] <;> omega) | fail) only [go_sem, List.append_assoc, List.cons_append, List.nil_append, List.length_append, List.length_cons, List.length_nil, hb0]
  rw [← hZ]
  obtain ⟨H1, q1, e1, w1, g1⟩ := Fwlist_sub w0 (by omega) (h1.move (O' := O) (H' := Z) (SubE.move (hmv _ _ f0)) (hmv _ _ f0)) hOA (by (try simp only [List.length_append, List.length_nil, numB_len]); omega)
  have e1' : F 28 #[.pointer (some ⟨H.length + 1, 0, some 1⟩), slv qa na 9, .func (.func 29) #[.pointer (some ⟨H.length + 1, 0, some 1⟩)] #[]] H.length Z = some (.returned (.tuple #[]), H1) := e1
  have f1 := f0.trans g1
  have hb1' : H1[H.length]? = _ := (f1.keep H.length (by omega) (by omega) (hn0 _)).trans hb0'
  simp (disch := first | assumption | omega | (simp only [go_sem] <;> omega) | fail) only [go_sem, e1', hb1']
  obtain ⟨H2, q2, e2, w2, g2⟩ := Fwlist_item w1 (by omega) (h2.move (O' := O) (H' := H1) (ItemE.move (hmv _ _ f1)) (hmv _ _ f1)) hOA (by (try simp only [List.length_append, List.length_nil, numB_len]); omega)
  have e2' : F 30 #[.pointer (some ⟨H.length + 1, 0, some 1⟩), slv qb nb 7, .func (.func 31) #[.pointer (some ⟨H.length + 1, 0, some 1⟩)] #[]] H.length H1 = some (.returned (.tuple #[]), H2) := e2
  have f2 := f1.trans g2
  have hb2' : H2[H.length]? = _ := (f2.keep H.length (by omega) (by omega) (hn0 _)).trans hb0'
  simp (disch := first | assumption | omega | (simp only [go_sem] <;> omega) | fail) only [go_sem, e2', hb2']
  obtain ⟨H3, q3, e3, w3, g3⟩ := FnumbersB (xs := [s.seq]) w2 (by omega) (by (try simp only [List.length_append, List.length_nil, List.length_cons, numB_len]); omega)
  have e3' : F 32 #[.pointer (some ⟨H.length + 1, 0, some 1⟩), .slice (some ⟨H2.length, 0, some 1⟩) 1 1] H.length (H2 ++ [⟨0, 3, #[.int .i64 s.seq], 0, false, []⟩]) = some (.returned (.tuple #[]), H3) := e3
  simp only [List.flatMap_cons, List.flatMap_nil, List.append_nil] at w3
  have f3 := f2.trans g3
  have hb3' : H3[H.length]? = _ := (f3.keep H.length (by omega) (by omega) (hn0 _)).trans hb0'
  simp (disch := first | assumption | omega | (simp only [go_sem] <;> omega) | fail) only [go_sem, e3', hb3']
  obtain ⟨H4, q4, e4, w4, g4⟩ := Fwlist_out w3 (by omega) (h3.move (O' := O) (H' := H3) (OutE.move (hmv _ _ f3)) (hmv _ _ f3)) hOA (by (try simp only [List.length_append, List.length_nil, numB_len]); omega)
  have e4' : F 33 #[.pointer (some ⟨H.length + 1, 0, some 1⟩), slv qc nc 9, .func (.func 34) #[.pointer (some ⟨H.length + 1, 0, some 1⟩)] #[]] H.length H3 = some (.returned (.tuple #[]), H4) := e4
  have f4 := f3.trans g4
  have hb4' : H4[H.length]? = _ := (f4.keep H.length (by omega) (by omega) (hn0 _)).trans hb0'
  simp (disch := first | assumption | omega | (simp only [go_sem] <;> omega) | fail) only [go_sem, e4', hb4']
  obtain ⟨H5, q5, e5, w5, g5⟩ := FnumbersB (xs := [s.now]) w4 (by omega) (by (try simp only [List.length_append, List.length_nil, List.length_cons, numB_len]); omega)
  have e5' : F 32 #[.pointer (some ⟨H.length + 1, 0, some 1⟩), .slice (some ⟨H4.length, 0, some 1⟩) 1 1] H.length (H4 ++ [⟨0, 3, #[.int .i64 s.now], 0, false, []⟩]) = some (.returned (.tuple #[]), H5) := e5
  simp only [List.flatMap_cons, List.flatMap_nil, List.append_nil] at w5
  have f5 := f4.trans g5
  have hb5' : H5[H.length]? = _ := (f5.keep H.length (by omega) (by omega) (hn0 _)).trans hb0'
  obtain ⟨ew, fw, hfw, hcell⟩ := w5.cell
  simp (disch := first | assumption | omega | (simp only [go_sem] <;> omega) | fail) only [go_sem, e5', hb5', hcell]
  have hw : [] ++ listB subB s.subs ++ listB itemB s.items ++ numB s.seq ++ listB outB s.out ++ numB s.now = putL s := by
    simp only [putL, List.nil_append, List.append_assoc]
  rw [hw] at w5 hcell
  have hlenE : (listB subB s.subs).length + (listB itemB s.items).length + (numB s.seq).length + (listB outB s.out).length + (numB s.now).length = (putL s).length := by
    rw [← hw]; simp only [List.length_append, List.length_nil, Nat.zero_add]
  rw [hlenE]
  have hpos : 0 < (putL s).length := by rw [← hlenE, numB_len]; omega
  have hcat := w5.own.cat
  have hown := w5.own
  rcases q5 with _ | ⟨B5, o5, n5⟩
  · have : u8s (putL s) = [] := hown
    have := congrArg List.length this
    simp at this
    rw [this] at hpos
    simp at hpos
  · obtain ⟨rfl, _, hB5, B, hB, _⟩ := hown
    refine ⟨B5, n5, H5, ?_, hcat, hB5, (List.getElem?_eq_some_iff.1 hB).1, by have := f5.le; omega, fun C hC => (f5.keep C (by omega) (by omega) (hn0 _)).trans (hZk C hC)⟩
    rw [if_neg (by simp [slv, g_sl])]
    rfl
def i64 (n : Int) : Prop := -9223372036854775808 ≤ n ∧ n ≤ 9223372036854775807
theorem numV_foldl : ∀ (l : List UInt8) (n : Int) (m : Int), n % 18446744073709551616 = m % 18446744073709551616 →
    (l.foldl (fun n c => IntKind.i64.wrap (n * 256 + (c.toNat : Int))) n) % 18446744073709551616 = (l.foldl (fun n c => n * 256 + (c.toNat : Int)) m) % 18446744073709551616
  | [], n, m, h => h
  | c :: l, n, m, h => by
    rw [List.foldl_cons, List.foldl_cons]
    refine numV_foldl l _ _ ?_
    rw [wrap64_mod]
    omega
theorem numV_mod (l : List UInt8) : numV l % 18446744073709551616 = (l.foldl (fun n c => n * 256 + (c.toNat : Int)) 0) % 18446744073709551616 := numV_foldl l 0 0 rfl
theorem len8 {l : List UInt8} (h : l.length = 8) : ∃ a b c d e f g k, l = [a, b, c, d, e, f, g, k] := by
  match l, h with
  | [a, b, c, d, e, f, g, k], _ => exact ⟨a, b, c, d, e, f, g, k, rfl⟩
theorem byte_eq {n : Int} {i : Nat} {b : UInt8} (h : (n / 256 ^ i) % 256 = b.toNat) : byteAt n i = b := by
  unfold byteAt
  rw [h, Int.toNat_natCast, UInt8.ofNat_toNat]
theorem numB_V {l : List UInt8} (h : l.length = 8) : numB (numV l) = l := by
  obtain ⟨a, b, c, d, e, f, g, k, rfl⟩ := len8 h
  have hm := numV_mod [a, b, c, d, e, f, g, k]
  have hb := numV_bound [a, b, c, d, e, f, g, k]
  generalize numV [a, b, c, d, e, f, g, k] = x at hm hb ⊢
  simp only [List.foldl_cons, List.foldl_nil] at hm
  have ha := a.toNat_lt; have hb' := b.toNat_lt; have hc := c.toNat_lt; have hd := d.toNat_lt
  have he := e.toNat_lt; have hf := f.toNat_lt; have hg := g.toNat_lt; have hk := k.toNat_lt
  simp only [numB, bytesTo]
  have q1 : x / 256 = x / 256 := rfl
  have e2 : x / 256 ^ 2 = x / 256 / 256 := by rw [Int.ediv_ediv_of_nonneg (by decide)]; rfl
  have e3 : x / 256 ^ 3 = x / 256 / 256 / 256 := by rw [Int.ediv_ediv_of_nonneg (by decide), Int.ediv_ediv_of_nonneg (by decide)]; rfl
  have e4 : x / 256 ^ 4 = x / 256 / 256 / 256 / 256 := by rw [Int.ediv_ediv_of_nonneg (by decide), Int.ediv_ediv_of_nonneg (by decide), Int.ediv_ediv_of_nonneg (by decide)]; rfl
  have e5 : x / 256 ^ 5 = x / 256 / 256 / 256 / 256 / 256 := by rw [Int.ediv_ediv_of_nonneg (by decide), Int.ediv_ediv_of_nonneg (by decide), Int.ediv_ediv_of_nonneg (by decide), Int.ediv_ediv_of_nonneg (by decide)]; rfl
  have e6 : x / 256 ^ 6 = x / 256 / 256 / 256 / 256 / 256 / 256 := by rw [Int.ediv_ediv_of_nonneg (by decide), Int.ediv_ediv_of_nonneg (by decide), Int.ediv_ediv_of_nonneg (by decide), Int.ediv_ediv_of_nonneg (by decide), Int.ediv_ediv_of_nonneg (by decide)]; rfl
  have e7 : x / 256 ^ 7 = x / 256 / 256 / 256 / 256 / 256 / 256 / 256 := by rw [Int.ediv_ediv_of_nonneg (by decide), Int.ediv_ediv_of_nonneg (by decide), Int.ediv_ediv_of_nonneg (by decide), Int.ediv_ediv_of_nonneg (by decide), Int.ediv_ediv_of_nonneg (by decide), Int.ediv_ediv_of_nonneg (by decide)]; rfl
  have e1 : x / 256 ^ 1 = x / 256 := by rw [Int.pow_one]
  have e0 : x / 256 ^ 0 = x := by rw [Int.pow_zero, Int.ediv_one]
  have r : byteAt x 7 = a ∧ byteAt x 6 = b ∧ byteAt x 5 = c ∧ byteAt x 4 = d ∧ byteAt x 3 = e ∧ byteAt x 2 = f ∧ byteAt x 1 = g ∧ byteAt x 0 = k := by
    refine ⟨byte_eq ?_, byte_eq ?_, byte_eq ?_, byte_eq ?_, byte_eq ?_, byte_eq ?_, byte_eq ?_, byte_eq ?_⟩
    · rw [e7]; omega
    · rw [e6]; omega
    · rw [e5]; omega
    · rw [e4]; omega
    · rw [e3]; omega
    · rw [e2]; omega
    · rw [e1]; omega
    · rw [e0]; omega
  obtain ⟨r7, r6, r5, r4, r3, r2, r1, r0⟩ := r
  rw [r7, r6, r5, r4, r3, r2, r1, r0]
theorem byte_nat (n : Int) (i : Nat) : ((byteAt n i).toNat : Int) = (n / 256 ^ i) % 256 := by
  unfold byteAt
  generalize (n / 256 ^ i : Int) = m
  rw [UInt8.toNat_ofNat']
  have : (m % 256).toNat % 2 ^ 8 = (m % 256).toNat := Nat.mod_eq_of_lt (by omega)
  rw [this]
  omega
theorem numV_B {n : Int} (h : i64 n) : numV (numB n) = n := by
  have hm := numV_mod (numB n)
  have hb := numV_bound (numB n)
  generalize numV (numB n) = x at hm hb ⊢
  simp only [numB, bytesTo, List.foldl_cons, List.foldl_nil, byte_nat] at hm
  have e2 : n / 256 ^ 2 = n / 256 / 256 := by rw [Int.ediv_ediv_of_nonneg (by decide)]; rfl
  have e3 : n / 256 ^ 3 = n / 256 / 256 / 256 := by rw [Int.ediv_ediv_of_nonneg (by decide), Int.ediv_ediv_of_nonneg (by decide)]; rfl
  have e4 : n / 256 ^ 4 = n / 256 / 256 / 256 / 256 := by rw [Int.ediv_ediv_of_nonneg (by decide), Int.ediv_ediv_of_nonneg (by decide), Int.ediv_ediv_of_nonneg (by decide)]; rfl
  have e5 : n / 256 ^ 5 = n / 256 / 256 / 256 / 256 / 256 := by rw [Int.ediv_ediv_of_nonneg (by decide), Int.ediv_ediv_of_nonneg (by decide), Int.ediv_ediv_of_nonneg (by decide), Int.ediv_ediv_of_nonneg (by decide)]; rfl
  have e6 : n / 256 ^ 6 = n / 256 / 256 / 256 / 256 / 256 / 256 := by rw [Int.ediv_ediv_of_nonneg (by decide), Int.ediv_ediv_of_nonneg (by decide), Int.ediv_ediv_of_nonneg (by decide), Int.ediv_ediv_of_nonneg (by decide), Int.ediv_ediv_of_nonneg (by decide)]; rfl
  have e7 : n / 256 ^ 7 = n / 256 / 256 / 256 / 256 / 256 / 256 / 256 := by rw [Int.ediv_ediv_of_nonneg (by decide), Int.ediv_ediv_of_nonneg (by decide), Int.ediv_ediv_of_nonneg (by decide), Int.ediv_ediv_of_nonneg (by decide), Int.ediv_ediv_of_nonneg (by decide), Int.ediv_ediv_of_nonneg (by decide)]; rfl
  have e1 : n / 256 ^ 1 = n / 256 := by rw [Int.pow_one]
  have e0 : n / 256 ^ 0 = n := by rw [Int.pow_zero, Int.ediv_one]
  rw [e0, e1, e2, e3, e4, e5, e6, e7] at hm
  obtain ⟨h1, h2⟩ := h
  omega
structure Fit {α : Type} (p : Pa α) (f : α → List UInt8) (ok : α → Prop) : Prop where
  rd : ∀ x r, ok x → p (f x ++ r) = some (x, r)
  wr : ∀ l x r, p l = some (x, r) → l = f x ++ r
theorem fit_num : Fit numP numB i64 where
  rd x r h := by
    have e : (numB x ++ r).take 8 = numB x := by rw [← numB_len x, List.take_left']; rfl
    have e' : (numB x ++ r).drop 8 = r := by rw [← numB_len x, List.drop_left']; rfl
    rw [numP, if_pos (by rw [List.length_append, numB_len]; omega), e, e', numV_B h]
  wr l x r h := by
    unfold numP at h
    split at h
    · rename_i h8
      cases h
      rw [numB_V (by rw [List.length_take]; omega), List.take_append_drop]
    · cases h
def len64 {α : Type} (l : List α) : Prop := l.length ≤ 9223372036854775807
theorem fit_text : Fit textP textB len64 where
  rd x r h := by
    unfold len64 at h
    rw [textP, textB, List.append_assoc, fit_num.rd _ _ ⟨by omega, by omega⟩, Option.bind_some]
    rw [takeP, if_pos ⟨by omega, by rw [List.length_append]; omega⟩]
    simp
  wr l x r h := by
    unfold textP at h
    obtain ⟨⟨n, l1⟩, h1, h2⟩ := Option.bind_eq_some_iff.1 h
    have e := fit_num.wr _ _ _ h1
    unfold takeP at h2
    simp only at h2
    split at h2
    · rename_i hn
      cases h2
      have : ((l1.take n.toNat).length : Int) = n := by rw [List.length_take]; omega
      rw [e, textB, this, List.append_assoc, List.take_append_drop]
    · cases h2
theorem fit_rep {α : Type} {p : Pa α} {f : α → List UInt8} {ok : α → Prop} (F : Fit p f ok) : ∀ (xs : List α) (r : List UInt8), (∀ x ∈ xs, ok x) → repP p xs.length (xs.flatMap f ++ r) = some (xs, r)
  | [], r, _ => rfl
  | x :: xs, r, h => by
    rw [List.length_cons, repP, List.flatMap_cons, List.append_assoc, F.rd _ _ (h x (List.mem_cons_self ..)), Option.bind_some, fit_rep F xs r (fun y hy => h y (List.mem_cons_of_mem _ hy))]
    rfl
theorem fit_rep' {α : Type} {p : Pa α} {f : α → List UInt8} {ok : α → Prop} (F : Fit p f ok) : ∀ (n : Nat) (l : List UInt8) (xs : List α) (r : List UInt8), repP p n l = some (xs, r) → xs.length = n ∧ l = xs.flatMap f ++ r
  | 0, l, xs, r, h => by cases h; exact ⟨rfl, rfl⟩
  | n + 1, l, xs, r, h => by
    rw [repP] at h
    obtain ⟨⟨x, l1⟩, h1, h2⟩ := Option.bind_eq_some_iff.1 h
    obtain ⟨⟨ys, l2⟩, h3, h4⟩ := Option.bind_eq_some_iff.1 h2
    cases h4
    obtain ⟨k1, k2⟩ := fit_rep' F n _ _ _ h3
    refine ⟨by rw [List.length_cons, k1], ?_⟩
    rw [F.wr _ _ _ h1, List.flatMap_cons, List.append_assoc, ← k2]
def all64 {α : Type} (ok : α → Prop) (xs : List α) : Prop := (∀ x ∈ xs, ok x) ∧ len64 xs
theorem fit_list {α : Type} {p : Pa α} {f : α → List UInt8} {ok : α → Prop} (F : Fit p f ok) (hf : ∀ x, 1 ≤ (f x).length) : Fit (listP p) (listB f) (all64 ok) where
  rd xs r h := by
    obtain ⟨h1, h2⟩ := h
    unfold len64 at h2
    have hl := flat_len f hf xs
    rw [listP, listB, List.append_assoc, fit_num.rd _ _ ⟨by omega, by omega⟩, Option.bind_some, if_pos ⟨by omega, by rw [List.length_append]; omega⟩, Int.toNat_natCast]
    exact fit_rep F xs r h1
  wr l xs r h := by
    unfold listP at h
    obtain ⟨⟨n, l1⟩, h1, h2⟩ := Option.bind_eq_some_iff.1 h
    have e := fit_num.wr _ _ _ h1
    simp only at h2
    split at h2
    · rename_i hn
      obtain ⟨k1, k2⟩ := fit_rep' F _ _ _ _ h2
      rw [e, listB, k1, Int.toNat_of_nonneg hn.1, List.append_assoc, ← k2]
    · cases h2
theorem fit_off : Fit offP offB (fun _ => True) where
  rd x r _ := by cases x <;> rfl
  wr l x r h := by
    unfold offP at h
    cases l with
    | nil => cases h
    | cons c l' =>
      simp only at h
      split at h
      · rename_i hc
        cases h
        have : c = 0 ∨ c = 1 := by
          have : c.toNat = 0 ∨ c.toNat = 1 := by omega
          rcases this with h | h
          · exact .inl (UInt8.toNat_inj.1 h)
          · exact .inr (UInt8.toNat_inj.1 h)
        rcases this with rfl | rfl <;> rfl
      · cases h
theorem bindP_iff {α β : Type} {p : Pa α} {f : α → Pa β} {l : List UInt8} {y : β × List UInt8} (h : bindP p f l = some y) : ∃ x l', p l = some (x, l') ∧ f x l' = some y := by
  unfold bindP at h
  obtain ⟨⟨x, l'⟩, h1, h2⟩ := Option.bind_eq_some_iff.1 h
  exact ⟨x, l', h1, h2⟩
structure SubOk (x : SubL) : Prop where
  a : len64 x.addr
  f : all64 i64 x.feeds
  z : len64 x.zone
  c : len64 x.cron
  n1 : i64 x.start
  n2 : i64 x.cursor
  n3 : i64 x.no
  n4 : i64 x.clock
structure ItemOk (x : ItemL) : Prop where
  n1 : i64 x.feed
  n2 : i64 x.seq
  a : len64 x.id
  b : len64 x.title
  c : len64 x.link
  d : len64 x.text
  n3 : i64 x.at_
structure OutOk (x : OutL) : Prop where
  n1 : i64 x.sub
  n2 : i64 x.no
  n3 : i64 x.from_
  n4 : i64 x.upto
  m : len64 x.mail
  n5 : i64 x.cut
  n6 : i64 x.tried
  n7 : i64 x.next
  n8 : i64 x.out
structure StateOk (s : StateL) : Prop where
  a : all64 SubOk s.subs
  b : all64 ItemOk s.items
  c : i64 s.seq
  d : all64 OutOk s.out
  e : i64 s.now
theorem fit_ints : Fit (listP numP) (listB numB) (all64 i64) := fit_list fit_num (fun x => by rw [numB_len]; omega)
theorem fit_sub : Fit subP subB SubOk where
  rd x r h := by
    have e : subB x ++ r = textB x.addr ++ (listB numB x.feeds ++ (textB x.zone ++ (textB x.cron ++ (numB x.start ++ (numB x.cursor ++ (numB x.no ++ (numB x.clock ++ (offB x.off ++ r)))))))) := by simp only [subB, listB, List.append_assoc]
    rw [e, subP, bindP_some (fit_text.rd _ _ h.a), bindP_some (fit_ints.rd _ _ h.f), bindP_some (fit_text.rd _ _ h.z), bindP_some (fit_text.rd _ _ h.c), bindP_some (fit_num.rd _ _ h.n1), bindP_some (fit_num.rd _ _ h.n2), bindP_some (fit_num.rd _ _ h.n3), bindP_some (fit_num.rd _ _ h.n4), bindP_some (fit_off.rd _ _ trivial)]
    rfl
  wr l x r h := by
    unfold subP at h
    obtain ⟨_, _, k1, h⟩ := bindP_iff h
    obtain ⟨_, _, k2, h⟩ := bindP_iff h
    obtain ⟨_, _, k3, h⟩ := bindP_iff h
    obtain ⟨_, _, k4, h⟩ := bindP_iff h
    obtain ⟨_, _, k5, h⟩ := bindP_iff h
    obtain ⟨_, _, k6, h⟩ := bindP_iff h
    obtain ⟨_, _, k7, h⟩ := bindP_iff h
    obtain ⟨_, _, k8, h⟩ := bindP_iff h
    obtain ⟨_, _, k9, h⟩ := bindP_iff h
    cases h
    rw [fit_text.wr _ _ _ k1, fit_ints.wr _ _ _ k2, fit_text.wr _ _ _ k3, fit_text.wr _ _ _ k4, fit_num.wr _ _ _ k5, fit_num.wr _ _ _ k6, fit_num.wr _ _ _ k7, fit_num.wr _ _ _ k8, fit_off.wr _ _ _ k9]
    simp only [subB, listB, List.append_assoc]
theorem fit_item : Fit itemP itemB ItemOk where
  rd x r h := by
    have e : itemB x ++ r = numB x.feed ++ (numB x.seq ++ (textB x.id ++ (textB x.title ++ (textB x.link ++ (textB x.text ++ (numB x.at_ ++ r)))))) := by simp only [itemB, List.append_assoc]
    rw [e, itemP, bindP_some (fit_num.rd _ _ h.n1), bindP_some (fit_num.rd _ _ h.n2), bindP_some (fit_text.rd _ _ h.a), bindP_some (fit_text.rd _ _ h.b), bindP_some (fit_text.rd _ _ h.c), bindP_some (fit_text.rd _ _ h.d), bindP_some (fit_num.rd _ _ h.n3)]
    rfl
  wr l x r h := by
    unfold itemP at h
    obtain ⟨_, _, k1, h⟩ := bindP_iff h
    obtain ⟨_, _, k2, h⟩ := bindP_iff h
    obtain ⟨_, _, k3, h⟩ := bindP_iff h
    obtain ⟨_, _, k4, h⟩ := bindP_iff h
    obtain ⟨_, _, k5, h⟩ := bindP_iff h
    obtain ⟨_, _, k6, h⟩ := bindP_iff h
    obtain ⟨_, _, k7, h⟩ := bindP_iff h
    cases h
    rw [fit_num.wr _ _ _ k1, fit_num.wr _ _ _ k2, fit_text.wr _ _ _ k3, fit_text.wr _ _ _ k4, fit_text.wr _ _ _ k5, fit_text.wr _ _ _ k6, fit_num.wr _ _ _ k7]
    simp only [itemB, List.append_assoc]
theorem fit_out : Fit outP outB OutOk where
  rd x r h := by
    have e : outB x ++ r = numB x.sub ++ (numB x.no ++ (numB x.from_ ++ (numB x.upto ++ (textB x.mail ++ (numB x.cut ++ (numB x.tried ++ (numB x.next ++ (numB x.out ++ r)))))))) := by simp only [outB, List.append_assoc]
    rw [e, outP, bindP_some (fit_num.rd _ _ h.n1), bindP_some (fit_num.rd _ _ h.n2), bindP_some (fit_num.rd _ _ h.n3), bindP_some (fit_num.rd _ _ h.n4), bindP_some (fit_text.rd _ _ h.m), bindP_some (fit_num.rd _ _ h.n5), bindP_some (fit_num.rd _ _ h.n6), bindP_some (fit_num.rd _ _ h.n7), bindP_some (fit_num.rd _ _ h.n8)]
    rfl
  wr l x r h := by
    unfold outP at h
    obtain ⟨_, _, k1, h⟩ := bindP_iff h
    obtain ⟨_, _, k2, h⟩ := bindP_iff h
    obtain ⟨_, _, k3, h⟩ := bindP_iff h
    obtain ⟨_, _, k4, h⟩ := bindP_iff h
    obtain ⟨_, _, k5, h⟩ := bindP_iff h
    obtain ⟨_, _, k6, h⟩ := bindP_iff h
    obtain ⟨_, _, k7, h⟩ := bindP_iff h
    obtain ⟨_, _, k8, h⟩ := bindP_iff h
    obtain ⟨_, _, k9, h⟩ := bindP_iff h
    cases h
    rw [fit_num.wr _ _ _ k1, fit_num.wr _ _ _ k2, fit_num.wr _ _ _ k3, fit_num.wr _ _ _ k4, fit_text.wr _ _ _ k5, fit_num.wr _ _ _ k6, fit_num.wr _ _ _ k7, fit_num.wr _ _ _ k8, fit_num.wr _ _ _ k9]
    simp only [outB, List.append_assoc]
theorem fit_state : Fit stateP putL StateOk where
  rd x r h := by
    have e : putL x ++ r = listB subB x.subs ++ (listB itemB x.items ++ (numB x.seq ++ (listB outB x.out ++ (numB x.now ++ r)))) := by simp only [putL, List.append_assoc]
    rw [e, stateP, bindP_some ((fit_list fit_sub subB_pos).rd _ _ h.a), bindP_some ((fit_list fit_item itemB_pos).rd _ _ h.b), bindP_some (fit_num.rd _ _ h.c), bindP_some ((fit_list fit_out outB_pos).rd _ _ h.d), bindP_some (fit_num.rd _ _ h.e)]
    rfl
  wr l x r h := by
    unfold stateP at h
    obtain ⟨_, _, k1, h⟩ := bindP_iff h
    obtain ⟨_, _, k2, h⟩ := bindP_iff h
    obtain ⟨_, _, k3, h⟩ := bindP_iff h
    obtain ⟨_, _, k4, h⟩ := bindP_iff h
    obtain ⟨_, _, k5, h⟩ := bindP_iff h
    cases h
    rw [(fit_list fit_sub subB_pos).wr _ _ _ k1, (fit_list fit_item itemB_pos).wr _ _ _ k2, fit_num.wr _ _ _ k3, (fit_list fit_out outB_pos).wr _ _ _ k4, fit_num.wr _ _ _ k5]
    simp only [putL, List.append_assoc]
theorem getL_put {s : StateL} (h : StateOk s) : getL (putL s) = some s := by
  have := fit_state.rd s [] h
  rw [List.append_nil] at this
  rw [getL, this]
theorem put_getL {l : List UInt8} {s : StateL} (h : getL l = some s) : putL s = l := by
  unfold getL at h
  split at h
  · rename_i h1
    cases h
    have := fit_state.wr _ _ _ h1
    rw [this, List.append_nil]
  · cases h
end Go.AM.Z
