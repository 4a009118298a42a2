/-
  OctetThere: what its rounds keep.
-/
import Derived.Test.YtepligggofbegaaOctTherP
import Derived.Test.YtepligggofbegaaOctR3
import Derived.Test.YtepligggofbegaaOctWrites
namespace Go.Proofs.Ytepligggofbegaa
open Go.RowKit

theorem infoOOp : (Try.prog.info? 33).map (fun i => (i.zero, i.size, i.bytes)) = some (some (.agg #[.int .i64 0, .int .i64 0, .int .i64 0, .string .empty, .slice none 0 0]), 5, 64) := by kernel_rfl
theorem oop_one (o : OOp) : ∀ u ∈ o.cells, u.oneCell' = true := by
  intro u hu
  simp [OOp.cells] at hu
  rcases hu with rfl | rfl | rfl | rfl | rfl <;> rfl
theorem oop_new (w : World) (op : OOp) (t : TypeId) : ∀ k u, op.cells[k]? = some u → (w.alloc (.cells #[.int .i64 op.kind, .int .i64 op.n, .int .i64 op.num, .string op.text, .slice op.addr op.data.length op.cap] t)).cell? ⟨w.heap.size, k, none⟩ = some u := by
  intro k u hu
  have h := (Blk.new w t #[.int .i64 op.kind, .int .i64 op.n, .int .i64 op.num, .string op.text, .slice op.addr op.data.length op.cap]).cell k
  rw [h, ← hu]
  simp [OOp.cells]

section
variable {w : World} {ops : Array Oper} {rest : List Oper} {o : Oper} {a : Act} {Q : Exit → Act → World → Prop}
theorem wpList_appOp (hgd : o.guard = none) (s x : Operand) (ho : o.op = .call { callee := .builtin .append, args := #[s, x], argTypes := #[24, 24] })
    (F : Nat → Prop) (v : Value) (l : List OOp) (hs : a.eval s = v) (hown : Own w 33 5 F v l.length (l.flatMap OOp.cells)) (g : Nat) (t : OOp) (hx : a.eval x = .slice (some ⟨g, 0, none⟩) 1 1) (hc : ∀ k u, t.cells[k]? = some u → w.cell? ⟨g, k, none⟩ = some u)
    (hl : (l.length + 1) * 64 ≤ 140737488355328) (hF : F w.heap.size)
    (h : ∀ A' c' w', Own w' 33 5 F (.slice A' (l.length + 1) c') (l.length + 1) ((l ++ [t]).flatMap OOp.cells) → Kept (ownS v) w w' → wpList Try.prog ops Q rest (a.put o.dst (.slice A' (l.length + 1) c')) w') : wpList Try.prog ops Q (o :: rest) a w := by
  obtain ⟨i0, hi, hz0, hz1, hz2⟩ := info_parts infoOOp
  refine wpList_append_Own w hgd s x 24 ho 33 i0 _ 5 64 Try.underlying24 hi hz0 hz1 hz2 rfl (by decide) F (fun _ => True) v l.length (l.flatMap OOp.cells) hs hown (some ⟨g, 0, none⟩) 1 1 t.cells hx rfl ?_ (oop_one t) (by unfold maxLen; omega) hl ?_
  · refine .inr ⟨g, 0, rfl, trivial, fun j u hj => ?_⟩
    rw [Nat.zero_add]
    exact hc j u hj
  · intro v' w' h1 h2
    have h3 := h1.mono (G := F) (fun k _ q => q.elim id fun q => q ▸ hF)
    obtain ⟨A', c', rfl, _⟩ := Own.form h3
    refine h A' c' w' ?_ h2
    rw [List.flatMap_append]
    simpa using h3
end

/-- A Writer at p that holds s, a row v that holds l; neither has a block of Z. -/
def ThereAt (w W : World) (Z : Nat → Prop) (p : Nat) (v : Value) (s : WS) (l : List OOp) : Prop :=
  ∃ FW FK : Nat → Prop, (∀ k, FW k → FK k → False) ∧ (∀ k, FW k → w.heap.size ≤ k ∧ k < W.heap.size ∧ ¬ Z k) ∧ (∀ k, FK k → w.heap.size ≤ k ∧ k < W.heap.size ∧ ¬ Z k) ∧ WSAt W FW p s ∧ Own W 33 5 FK v l.length (l.flatMap OOp.cells) ∧ Kept noneS w W

theorem ThereAt.alloc {w W : World} {p : Nat} {v : Value} {s : WS} {l : List OOp} (h : ThereAt w W noneS p v s l) (o : Obj) : ThereAt w (W.alloc o) (· = W.heap.size) p v s l := by
  obtain ⟨FW, FK, h1, h2, h3, h4, h5, h6⟩ := h
  have ka := (Kept.refl noneS W).alloc o
  have hz : (W.alloc o).heap.size = W.heap.size + 1 := by simp
  refine ⟨FW, FK, h1, fun k q => ?_, fun k q => ?_, h4.still ka, h5.alloc o, h6.trans ka⟩
  · have := h2 k q
    exact ⟨by omega, by omega, by omega⟩
  · have := h3 k q
    exact ⟨by omega, by omega, by omega⟩

/-- Behind a call on the Writer. -/
theorem ThereAt.wrote {w W W1 : World} {Z : Nat → Prop} {p : Nat} {v : Value} {s' : WS} {l : List OOp} {FW FK : Nat → Prop} (h1 : ∀ k, FW k → FK k → False) (h2 : ∀ k, FW k → w.heap.size ≤ k ∧ k < W.heap.size ∧ ¬ Z k) (h3 : ∀ k, FK k → w.heap.size ≤ k ∧ k < W.heap.size ∧ ¬ Z k) (h5 : Own W 33 5 FK v l.length (l.flatMap OOp.cells)) (h6 : Kept noneS w W) (hZ : ∀ k, Z k → k < W.heap.size)
    (h4 : WSAt W1 (fun k => FW k ∨ W.heap.size ≤ k) p s') (k1 : Kept (fun k => FW k ∨ W.heap.size ≤ k) W W1) : ThereAt w W1 Z p v s' l := by
  have z1 := k1.size
  have z6 := h6.size
  refine ⟨fun k => (FW k ∨ W.heap.size ≤ k) ∧ k < W1.heap.size, FK, ?_, ?_, ?_, h4.mono fun k a b => ⟨b, a⟩, h5.keep k1 ?_, h6.trans2 k1 ?_⟩
  · rintro k ⟨a | a, b⟩ c
    · exact h1 k a c
    · have := h3 k c; omega
  · rintro k ⟨a | a, b⟩
    · have := h2 k a
      exact ⟨by omega, b, this.2.2⟩
    · exact ⟨by omega, b, fun z => by have := hZ k z; omega⟩
  · intro k a
    have := h3 k a
    exact ⟨by omega, by omega, this.2.2⟩
  · rintro k a b (c | c)
    · exact h1 k c b
    · omega
  · rintro k a (c | c)
    · have := h2 k c; omega
    · omega

theorem ThereAt.kept {w W W1 : World} {p : Nat} {v : Value} {s : WS} {l : List OOp} {FW FK : Nat → Prop} {A' : Option Addr} {c' : Nat} {t : OOp} (h1 : ∀ k, FW k → FK k → False) (h2 : ∀ k, FW k → w.heap.size ≤ k ∧ k < W.heap.size) (h3 : ∀ k, FK k → w.heap.size ≤ k ∧ k < W.heap.size) (h4 : WSAt W FW p s) (h6 : Kept noneS w W) (hv : ∀ k, ownS v k → FK k)
    (k1 : Kept (ownS v) W W1) (h5 : Own W1 33 5 (fun k => FK k ∨ W.heap.size ≤ k) (.slice A' (l.length + 1) c') (l.length + 1) ((l ++ [t]).flatMap OOp.cells)) : ThereAt w W1 noneS p (.slice A' (l.length + 1) c') s (l ++ [t]) := by
  have z1 := k1.size
  have z6 := h6.size
  refine ⟨FW, fun k => (FK k ∨ W.heap.size ≤ k) ∧ k < W1.heap.size, ?_, ?_, ?_, h4.keep k1 ?_, ?_, h6.trans2 k1 ?_⟩
  · rintro k a ⟨b | b, c⟩
    · exact h1 k a b
    · have := h2 k a; omega
  · intro k a
    have := h2 k a
    exact ⟨by omega, by omega, fun q => q⟩
  · rintro k ⟨a | a, b⟩
    · have := h3 k a
      exact ⟨by omega, b, fun q => q⟩
    · exact ⟨by omega, b, fun q => q⟩
  · intro k a b c
    exact h1 k b (hv k c)
  · rw [List.length_append]
    exact h5.mono fun k a b => ⟨b, a⟩
  · intro k a b
    have := h3 k (hv k b)
    omega

theorem str_back (s : ByteArray) : (⟨s.data.toList.toArray⟩ : ByteArray) = s := by cases s; simp

theorem mask_and (x : Int) (k : Nat) (hk : k ≤ 32) : bits .and .i64 x ((2 ^ k - 1 : Nat) : Int) = x % ((2 ^ k : Nat) : Int) := by
  have hp : (2 : Nat) ^ k ≤ 4294967296 := Nat.le_trans (Nat.pow_le_pow_right (by decide) hk) (by decide)
  have hp1 : 1 ≤ (2 : Nat) ^ k := Nat.one_le_two_pow
  have h1 : (BitVec.ofInt 64 x).toNat = (x % 18446744073709551616).toNat := by
    rw [BitVec.toNat_ofInt]
    rfl
  have h2 : (BitVec.ofInt 64 ((2 ^ k - 1 : Nat) : Int)).toNat = 2 ^ k - 1 := by
    rw [BitVec.toNat_ofInt]
    omega
  show IntKind.i64.wrap ((BitVec.ofInt 64 x &&& BitVec.ofInt 64 ((2 ^ k - 1 : Nat) : Int)).toNat : Int) = _
  rw [BitVec.toNat_and, h1, h2, Nat.and_two_pow_sub_one_eq_mod]
  have h3 : (((x % 18446744073709551616).toNat % 2 ^ k : Nat) : Int) = x % ((2 ^ k : Nat) : Int) := by
    have e : (((x % 18446744073709551616).toNat : Nat) : Int) = x % 18446744073709551616 := by omega
    rw [Int.natCast_emod, e]
    apply Int.emod_emod_of_dvd
    have : (18446744073709551616 : Int) = ((2 ^ k : Nat) : Int) * ((2 ^ (64 - k) : Nat) : Int) := by
      rw [← Int.natCast_mul, ← Nat.pow_add, show k + (64 - k) = 64 by omega]
      rfl
    rw [this]
    exact Int.dvd_mul_right _ _
  rw [h3]
  have h4 : 0 ≤ x % ((2 ^ k : Nat) : Int) := Int.emod_nonneg _ (by omega)
  have h5 : x % ((2 ^ k : Nat) : Int) < ((2 ^ k : Nat) : Int) := Int.emod_lt_of_pos _ (by omega)
  exact IntWalk.i64_in _ (by omega)

theorem be_val (n : Int) (k : Nat) (hk : k ≤ 4) : IntKind.i64.wrap (beNat (be k n) : Int) = n % ((256 ^ k : Nat) : Int) := by
  rw [be_wide k (by omega), beNat_be_mod]
  have hp : (256 : Nat) ^ k ≤ 4294967296 := Nat.le_trans (Nat.pow_le_pow_right (by decide) hk) (by decide)
  have hp1 : 1 ≤ (256 : Nat) ^ k := Nat.one_le_pow _ _ (by decide)
  have h3 : (((n % 18446744073709551616).toNat % 256 ^ k : Nat) : Int) = n % ((256 ^ k : Nat) : Int) := by
    have e : (((n % 18446744073709551616).toNat : Nat) : Int) = n % 18446744073709551616 := by omega
    rw [Int.natCast_emod, e]
    apply Int.emod_emod_of_dvd
    have : (18446744073709551616 : Int) = ((256 ^ k : Nat) : Int) * ((256 ^ (8 - k) : Nat) : Int) := by
      rw [← Int.natCast_mul, ← Nat.pow_add, show k + (8 - k) = 8 by omega]
      rfl
    rw [this]
    exact Int.dvd_mul_right _ _
  rw [h3]
  have h4 : 0 ≤ n % ((256 ^ k : Nat) : Int) := Int.emod_nonneg _ (by omega)
  have h5 : n % ((256 ^ k : Nat) : Int) < ((256 ^ k : Nat) : Int) := Int.emod_lt_of_pos _ (by omega)
  exact IntWalk.i64_in _ (by omega)
theorem be_val8 (n : Int) (h1 : -9223372036854775808 ≤ n) (h2 : n ≤ 9223372036854775807) : IntKind.i64.wrap (beNat (be 8 n) : Int) = n := by
  rw [be_wide 8 (by omega), beNat_be_mod, IntKind.wrap_i64]
  omega
theorem m8 (x : Int) : bits .and .i64 x 255 = IntKind.i64.wrap (beNat (be 1 x) : Int) := (mask_and x 8 (by decide)).trans (be_val x 1 (by decide)).symm
theorem m16 (x : Int) : bits .and .i64 x 65535 = IntKind.i64.wrap (beNat (be 2 x) : Int) := (mask_and x 16 (by decide)).trans (be_val x 2 (by decide)).symm
theorem m32 (x : Int) : bits .and .i64 x 4294967295 = IntKind.i64.wrap (beNat (be 4 x) : Int) := (mask_and x 32 (by decide)).trans (be_val x 4 (by decide)).symm

end Go.Proofs.Ytepligggofbegaa
