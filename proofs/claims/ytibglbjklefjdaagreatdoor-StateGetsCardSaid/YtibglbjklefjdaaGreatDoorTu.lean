/-
  A world's arguments, as blocks that are only read. No condition.
-/
import Derived.Test.YtibglbjklefjdaaGreatDoorTa
import Derived.Deep.Slices
set_option linter.all false
set_option linter.unusedSimpArgs false
set_option linter.unusedVariables false
set_option linter.unusedSectionVars false
namespace Go.AM.Z
open Go Go.AM Go.Proofs
open Go.RowKit (Below)
set_option maxRecDepth 100000
variable {α : Type} {W : World}
theorem roBlock {N0 : Nat} {M : Mp} {H : Heap} (hH : HR N0 W M H W) (hN : N0 = W.heap.size) {b base ext : Nat} {e : TypeId} {xs : List Value} (hone : xs.all oneC = true) (hn : xs.length ≤ ext)
    (hc : ∃ cs el fz, W.heap[b]? = some (Obj.cells cs el fz) ∧ base + ext ≤ cs.size ∧ ∀ i x, xs[i]? = some x → ∃ y, cs[base + i]? = some y ∧ VR M x y) :
    Mle M (M.set H.length xs.length (b, base, ext)) ∧ HR N0 W (M.set H.length xs.length (b, base, ext)) (H ++ [⟨0, e, xs.toArray, 0, true, []⟩]) W := by
  have hnone : M H.length xs.length = none := by
    cases e : M H.length xs.length with
    | none => rfl
    | some x => exact absurd (hH.valid e) (by omega)
  have hle := Mp.set_le M H.length xs.length (b, base, ext) hnone
  obtain ⟨cs, el, fz, h1, h2, h3⟩ := hc
  have hlt : b < W.heap.size := (Array.getElem?_eq_some_iff.1 h1).1
  refine ⟨hle, ⟨.refl _ _, by omega, ?_, ?_⟩⟩
  · intro A m b' base' ext' hm
    rcases Mp.set_some hm with ⟨rfl, rfl, e2⟩ | e2
    · cases e2
      refine ⟨⟨0, e, xs.toArray, 0, true, []⟩, by simp, ⟨hlt, fun h => by simp at h, fun _ => by omega, fun _ => ⟨by simp, hn, by simpa using hone, cs, el, fz, h1, h2, fun h => by simp at h, fun _ i x hi hx => ?_⟩, fun h => by simp at h, by simp, fun h => by simp at h⟩⟩
      obtain ⟨y, hy, hv⟩ := h3 i x (by simpa using hx)
      exact ⟨y, hy, vr_mono hle hv⟩
    · obtain ⟨B', hB, he'⟩ := hH.ent _ _ _ _ _ e2
      exact ⟨B', by rw [List.getElem?_append_left (List.getElem?_eq_some_iff.1 hB).1]; exact hB, he'.keep hle rfl⟩
  · intro A m A' m' b' base' ext1 base2 ext2 g1 g2 hn'
    exfalso
    rcases Mp.set_some g1 with ⟨_, _, e⟩ | g1
    · cases e; omega
    · obtain ⟨_, _, he'⟩ := hH.ent _ _ _ _ _ g1
      have := he'.lt
      omega
abbrev Rl (α : Type) := (Nat → Prop) → Heap → α → List Value → Prop
def Kept (E : Rl α) : Prop := ∀ (O O' : Nat → Prop) (H H' : Heap) (x : α) (c : List Value), (∀ B, O B → O' B ∧ H'[B]? = H[B]?) → E O H x c → E O' H' x c
def Opn (W : World) (E : Rl α) (x : α) (cs : List Value) : Prop := ∀ M H, HR W.heap.size W M H W → ∃ M' Z xs, Mle M M' ∧ HR W.heap.size W M' (H ++ Z) W ∧ VRL M' xs cs ∧ xs.all oneC = true ∧ E (fun B => B < (H ++ Z).length) (H ++ Z) x xs
theorem Opn.flat {E : Rl α} {x : α} {cs : List Value} (hf : cs.all flat = true) (ho : cs.all oneC = true) (h : ∀ O H, E O H x cs) : Opn W E x cs :=
  fun M H hH => ⟨M, [], cs, .refl _, by rw [List.append_nil]; exact hH, (vrl_flat hf).2 rfl, ho, h _ _⟩
theorem grow_kept {E : Rl α} (hE : Kept E) {H Z : Heap} {x : α} {xs : List Value} (h : E (fun B => B < H.length) H x xs) : E (fun B => B < (H ++ Z).length) (H ++ Z) x xs :=
  hE _ _ _ _ _ _ (fun B hB => ⟨by simp; omega, List.getElem?_append_left hB⟩) h
theorem opn_list {E : Rl α} (hE : Kept E) : ∀ (l : List (α × List Value)), (∀ p ∈ l, Opn W E p.1 p.2) → Opn W (fun O H xs c => LC (E O H) xs c) (l.map (·.1)) (l.map (·.2)).flatten
  | [], _ => fun M H hH => ⟨M, [], [], .refl _, by rw [List.append_nil]; exact hH, vrl_nil.2 rfl, rfl, rfl⟩
  | p :: l, h => fun M H hH => by
    obtain ⟨M1, Z1, xs1, g1, g2, g3, g4, g5⟩ := h p (List.mem_cons_self ..) M H hH
    obtain ⟨M2, Z2, xs2, k1, k2, k3, k4, k5⟩ := opn_list hE l (fun q hq => h q (List.mem_cons_of_mem _ hq)) M1 (H ++ Z1) g2
    refine ⟨M2, Z1 ++ Z2, xs1 ++ xs2, g1.trans k1, by rw [← List.append_assoc]; exact k2, ?_, by rw [List.all_append, g4, k4]; rfl, ?_⟩
    · rw [List.map_cons, List.flatten_cons]
      exact vrl_append (vrl_mono k1 g3) k3
    · rw [← List.append_assoc]
      exact ⟨xs1, xs2, rfl, grow_kept hE g5, k5⟩
variable {Hd : Type} {enc : TypeId × Value → Hd} {P : Program}
abbrev Tr (enc : TypeId × Value → Hd) (P : Program) (W : World) := DataW.trod enc P W 0 (fun _ => true) true
def OpnT (enc : TypeId × Value → Hd) (P : Program) (W : World) (E : Rl α) (K : α → Prop) (e : TypeId) : Prop := ∀ fuel cs d, Tr enc P W fuel e cs = some d → ∃ x, K x ∧ Opn W E x cs
def OneE (E : (Nat → Prop) → Heap → α → Value → Prop) : Rl α := fun O H x c => ∃ v, c = [v] ∧ E O H x v
theorem opn_slice {E : Rl α} {K : α → Prop} {s : Nat} (hE : Kept E) (hs : 0 < s) (hlen : ∀ O H x c, E O H x c → c.length = s) (hW : ∃ (b : Nat) (cs : Array Value) (el : TypeId) (fz : Nat × Nat), W.heap[b]? = some (Obj.cells cs el fz)) {t e : TypeId}
    (ht : P.underlying t = some (.slice e)) (hc : P.cellsOf e = s) (elem : OpnT enc P W E K e) : OpnT enc P W (OneE (ListAt E s)) (all64 K) t := by
  intro fuel cs d h
  rcases Deep.open_slice ht h with ⟨rfl, _⟩ | ⟨a, len, cap, m, n, D, Pl, rfl, _, hl, hm, hmm, _, hx⟩
  · refine ⟨[], ⟨fun x hx => by simp at hx, by simp [len64]⟩, .flat rfl rfl fun O H => ⟨.slice none 0 0, rfl, none, [], rfl, rfl, by simp, fun B hB => ?_, rfl⟩⟩
    obtain ⟨_, _, hB⟩ := hB
    cases hB
  simp only [if_true] at hmm
  subst m
  rw [hc] at hx
  have key : ∀ k, k ≤ len → ∃ l : List (α × List Value), l.length = k ∧ ∀ i p, l[i]? = some p → K p.1 ∧ Opn W E p.1 p.2 ∧ W.cells? 0 (a.add (i * s)) s = some p.2 := by
    intro k
    induction k with
    | zero => exact fun _ => ⟨[], rfl, fun i p h => by simp at h⟩
    | succ k ih =>
      intro hk
      obtain ⟨l, h1, h2⟩ := ih (by omega)
      obtain ⟨cs', g1, g2⟩ := hx k (by omega)
      obtain ⟨x, k1, k2⟩ := elem _ _ _ g2
      refine ⟨l ++ [(x, cs')], by simp [h1], fun i p hp => ?_⟩
      rcases Nat.lt_or_ge i l.length with hi | hi
      · rw [List.getElem?_append_left hi] at hp
        exact h2 i p hp
      · rw [List.getElem?_append_right hi] at hp
        obtain rfl : i = k := by
          have : i - l.length < 1 := (List.getElem?_eq_some_iff.1 hp).1
          omega
        rw [show i - l.length = 0 by omega] at hp
        obtain rfl := Option.some.inj hp
        exact ⟨k1, k2, g1⟩
  obtain ⟨l, hll, hl2⟩ := key len (Nat.le_refl _)
  have hmem : ∀ p ∈ l, K p.1 ∧ Opn W E p.1 p.2 := fun p hp => by
    obtain ⟨i, hi⟩ := List.getElem?_of_mem hp
    exact ⟨(hl2 i p hi).1, (hl2 i p hi).2.1⟩
  refine ⟨l.map (·.1), ⟨fun x hx => ?_, ?_⟩, fun M H hH => ?_⟩
  · obtain ⟨p, hp, rfl⟩ := List.mem_map.1 hx
    exact (hmem p hp).1
  · rw [len64, List.length_map, hll]
    have := hm
    unfold maxLen at this
    omega
  obtain ⟨M1, Z1, xs, g1, g2, g3, g4, g5⟩ := opn_list hE l (fun p hp => (hmem p hp).2) M H hH
  have hxl : xs.length = len * s := by
    rw [LC.length (fun x c h => hlen _ _ x c h) g5, List.length_map, hll]
  -- what the world holds at a cell of the slice
  have hcell : ∀ i, i < cap * s → ∃ v, W.cell? (a.add i) = some v := by
    intro i hi
    have hs' : 0 < s := hs
    obtain ⟨cs', h1, _⟩ := hx (i / s) ((Nat.div_lt_iff_lt_mul hs').2 hi)
    obtain ⟨_, h2, h3⟩ := World.cells?_some h1
    have hmod := Nat.mod_lt i hs'
    have := h3 (i % s) hmod
    rw [Deep.add_add, Nat.mul_comm, Nat.div_add_mod] at this
    exact ⟨_, this.trans (List.getElem?_eq_getElem (by omega))⟩
  have hcell2 : ∀ i, i < len * s → W.cell? (a.add i) = (l.map (·.2)).flatten[i]? := by
    intro i hi
    have hs' : 0 < s := hs
    have hd : i / s < len := (Nat.div_lt_iff_lt_mul hs').2 hi
    obtain ⟨p, hp⟩ : ∃ p, l[i / s]? = some p := ⟨_, List.getElem?_eq_getElem (by omega)⟩
    obtain ⟨_, h2, h3⟩ := World.cells?_some (hl2 _ _ hp).2.2
    have hmod := Nat.mod_lt i hs'
    have := h3 (i % s) hmod
    rw [Deep.add_add, Nat.mul_comm, Nat.div_add_mod] at this
    rw [this]
    have hfl : ∀ (l : List (α × List Value)) (j k : Nat) (p : α × List Value), (∀ q ∈ l, q.2.length = s) → l[j]? = some p → k < s → (l.map (·.2)).flatten[j * s + k]? = p.2[k]? := by
      intro l
      induction l with
      | nil => intro j k p _ h; simp at h
      | cons q l ih =>
        intro j k p hq h hk
        have hq0 := hq q (List.mem_cons_self ..)
        rw [List.map_cons, List.flatten_cons]
        cases j with
        | zero =>
          simp only [List.getElem?_cons_zero] at h
          cases h
          rw [Nat.zero_mul, Nat.zero_add, List.getElem?_append_left (by omega)]
        | succ j =>
          rw [List.getElem?_cons_succ] at h
          rw [List.getElem?_append_right (by rw [hq0, Nat.succ_mul]; omega), hq0, show (j + 1) * s + k - s = j * s + k by rw [Nat.succ_mul]; omega]
          exact ih j k p (fun q hq' => hq q (List.mem_cons_of_mem _ hq')) h hk
    have hq : ∀ q ∈ l, q.2.length = s := fun q hq => by
      obtain ⟨j, hj⟩ := List.getElem?_of_mem hq
      exact (World.cells?_some (hl2 j q hj).2.2).2.1
    have := hfl l (i / s) (i % s) p hq hp hmod
    rw [Nat.mul_comm, Nat.div_add_mod] at this
    rw [this]
  have fin : ∀ b base ext, (∃ cs el fz, W.heap[b]? = some (Obj.cells cs el fz) ∧ base + ext ≤ cs.size ∧ ∀ i x, xs[i]? = some x → ∃ y, cs[base + i]? = some y ∧ VR M1 x y) → xs.length ≤ ext → ((a = ⟨b, base, none⟩ ∧ cap * s ≤ ext) ∨ cap = 0) →
      ∃ M' Z ys, Mle M M' ∧ HR W.heap.size W M' (H ++ Z) W ∧ VRL M' ys [.slice (some a) len cap] ∧ ys.all oneC = true ∧ OneE (ListAt E s) (fun B => B < (H ++ Z).length) (H ++ Z) (l.map (·.1)) ys := by
    intro b base ext hc hle hor
    obtain ⟨k1, k2⟩ := roBlock (e := e) g2 rfl g4 hle hc
    refine ⟨_, Z1 ++ [⟨0, e, xs.toArray, 0, true, []⟩], [slv (some ((H ++ Z1).length, 0, xs.length)) (l.map (·.1)).length s], g1.trans k1, by rw [← List.append_assoc]; exact k2, ?_, by simp [oneC_slv], ⟨_, rfl, some ((H ++ Z1).length, 0, xs.length), xs, rfl, ?_, by simp [hxl, hll], ?_, ?_⟩⟩
    · rw [vrl_cons2]
      refine ⟨?_, vrl_nil.2 rfl⟩
      simp only [slv, VR, List.length_map, hll]
      exact ⟨b, base, ext, a, cap, Mp.set_same _ _ _ _, rfl, hl, by simpa using hor⟩
    · rw [← List.append_assoc]
      refine rd_iff.2 ⟨⟨0, e, xs.toArray, 0, true, []⟩, by simp, ⟨rfl, Nat.zero_le _, by simp, by simp⟩, by simp⟩
    · rintro B ⟨_, _, hB⟩
      cases hB
      simp
    · rw [← List.append_assoc]
      exact g5.mono fun x c h => grow_kept hE h
  have hxs : ∀ i x, xs[i]? = some x → i < len * s := fun i x h => by have := (List.getElem?_eq_some_iff.1 h).1; omega
  by_cases hcap : cap * s = 0
  · obtain ⟨b, cs, el, fz, hb⟩ := hW
    have hl0 : len * s = 0 := by have := Nat.mul_le_mul_right s hl; omega
    refine fin b 0 0 ⟨cs, el, fz, hb, by omega, fun i x h => absurd (hxs i x h) (by omega)⟩ (by omega) (.inr ?_)
    rcases Nat.mul_eq_zero.1 hcap with h | h <;> omega
  · obtain ⟨v0, hv0⟩ := hcell 0 (by omega)
    obtain ⟨b, o, sp⟩ := a
    have hsp : sp = none := by
      simp only [Addr.add, if_true, World.cell?] at hv0
      split at hv0
      · cases sp with
        | none => rfl
        | some _ => simp at hv0
      · cases hv0
    subst hsp
    obtain ⟨cs, el, fz, hb⟩ : ∃ cs el fz, W.heap[b]? = some (Obj.cells cs el fz) := by
      simp only [Addr.add, if_true, World.cell?] at hv0
      split at hv0
      · rename_i c el fz hh
        exact ⟨_, _, _, hh⟩
      · cases hv0
    have hget : ∀ i, W.cell? ((⟨b, o, none⟩ : Addr).add i) = cs[o + i]? := fun i => by
      rw [add_none]
      simp only [World.cell?, hb, Option.isSome_none, Bool.false_eq_true, if_false]
    refine fin b o (cap * s) ⟨cs, el, fz, hb, ?_, fun i x h => ?_⟩ (by have := Nat.mul_le_mul_right s hl; omega) (.inl ⟨rfl, Nat.le_refl _⟩)
    · obtain ⟨v, hv⟩ := hcell (cap * s - 1) (by omega)
      rw [hget] at hv
      have := (Array.getElem?_eq_some_iff.1 hv).1
      omega
    · have hi := hxs i x h
      have e1 := hcell2 i hi
      rw [hget] at e1
      obtain ⟨hl', hv⟩ := vrl_iff.1 g3
      obtain ⟨y, hy⟩ : ∃ y, (l.map (·.2)).flatten[i]? = some y := ⟨_, List.getElem?_eq_getElem (by omega)⟩
      exact ⟨y, e1.trans hy, hv i x y h hy⟩
end Go.AM.Z

namespace Go.AM.Z
open Go Go.AM Go.Proofs
open Go.RowKit (Below)
set_option maxRecDepth 100000
variable {α β : Type} {W : World} {Hd : Type} {enc : TypeId × Value → Hd}
theorem Opn.map {E : Rl α} {E' : Rl β} {x : α} {y : β} {cs : List Value} (h : Opn W E x cs) (hm : ∀ O H c, E O H x c → E' O H y c) : Opn W E' y cs := fun M H hH => by
  obtain ⟨M', Z, xs, h1, h2, h3, h4, h5⟩ := h M H hH
  exact ⟨M', Z, xs, h1, h2, h3, h4, hm _ _ _ h5⟩
def U8E : Rl UInt8 := fun _ _ x c => c = [u8v x]
theorem kept_int : Kept IntE := fun _ _ _ _ _ _ _ h => h
theorem kept_u8 : Kept U8E := fun _ _ _ _ _ _ _ h => h
theorem kept_item : Kept ItemE := fun _ _ _ _ _ _ _ h => h
theorem kept_sub : Kept SubE := fun _ _ _ _ _ _ h k => k.move h
theorem kept_out : Kept OutE := fun _ _ _ _ _ _ h k => k.move h
theorem open_u8 : OpnT enc Tryz.prog W U8E (fun _ => True) 5 := fun fuel cs d h => by
  obtain ⟨n, rfl, _, hw⟩ := DataW.trod_int Tryz.underlying5 h
  have hn : 0 ≤ n ∧ n ≤ 255 := by
    simp [Lit.wf, IntKind.min, IntKind.max, IntKind.signed, IntKind.bits] at hw
    have h1 := hw.1
    have h2 := hw.2
    exact ⟨h1, h2⟩
  refine ⟨UInt8.ofNat n.toNat, trivial, .flat rfl rfl fun O H => ?_⟩
  show [Value.int .u8 n] = [u8v (UInt8.ofNat n.toNat)]
  have : (UInt8.ofNat n.toNat).toNat = n.toNat := by rw [UInt8.toNat_ofNat']; exact Nat.mod_eq_of_lt (by omega)
  simp only [u8v, this]
  rw [Int.toNat_of_nonneg hn.1]
theorem LC_int {O : Nat → Prop} {H : Heap} : ∀ {xs : List Int} {cs : List Value}, LC (IntE O H) xs cs → cs = i64s xs
  | [], _, h => h
  | x :: xs, _, ⟨c, rest, e, h1, h2⟩ => by rw [e, LC_int h2, h1]; rfl
theorem LC_u8 {O : Nat → Prop} {H : Heap} : ∀ {xs : List UInt8} {cs : List Value}, LC (U8E O H) xs cs → cs = u8s xs
  | [], _, h => h
  | x :: xs, _, ⟨c, rest, e, h1, h2⟩ => by rw [e, LC_u8 h2, h1]; rfl
def HasC (W : World) : Prop := ∃ (b : Nat) (cs : Array Value) (el : TypeId) (fz : Nat × Nat), W.heap[b]? = some (Obj.cells cs el fz)
theorem bytes_at (hW : HasC W) {fuel : Nat} {cs : List Value} {d} (h : Tr enc Tryz.prog W fuel 33 cs = some d) : ∃ l : List UInt8, all64 (fun _ => True) l ∧ Opn W (OneE (ListAt U8E 1)) l cs :=
  opn_slice kept_u8 (by decide) (fun _ _ x c k => by rw [U8E] at k; subst k; rfl) hW Tryz.underlying33 (by kernel_rfl) open_u8 fuel cs d h
end Go.AM.Z

namespace Go.AM.Z
open Go Go.AM Go.Proofs
open Go.RowKit (Below)
set_option maxRecDepth 100000
variable {W : World} {Hd : Type} {enc : TypeId × Value → Hd}
def StE : Rl StateL := fun O H s c => ∃ v1 v2 v3, c = [v1, v2, i64v s.seq, v3, i64v s.now] ∧ ListAt SubE 9 O H s.subs v1 ∧ ListAt ItemE 7 O H s.items v2 ∧ ListAt OutE 9 O H s.out v3
theorem StE.at {O : Nat → Prop} {H : Heap} {s : StateL} {c : List Value} (h : StE O H s c) : StateAt O H s (.agg ⟨c⟩) := by
  obtain ⟨v1, v2, v3, rfl, h⟩ := h
  exact ⟨v1, v2, v3, rfl, h⟩
theorem StE.len {O : Nat → Prop} {H : Heap} {s : StateL} {c : List Value} (h : StE O H s c) : c.length = 5 := by
  obtain ⟨v1, v2, v3, rfl, h⟩ := h
  rfl
end Go.AM.Z
