/-
  All records at the beginning of octets: plain.
-/
import Derived.Test.YtlfdpkgggoafaaaDoorSealBurst
namespace Go.Proofs.YtlfdpkgggoafaaaDoor

theorem unwrapP_ok {b : List UInt8} (h : (unwrapP b).2.2 = 0) : 8 ≤ (unwrapP b).2.1 ∧ (unwrapP b).2.1 ≤ b.length ∧ (unwrapP b).1.length + 8 = (unwrapP b).2.1 := by
  unfold unwrapP at h ⊢
  by_cases h1 : b.length < 8
  · rw [if_pos h1] at h; cases h
  rw [if_neg h1] at h ⊢
  by_cases h2 : 1048576 < beNat (b.take 4)
  · rw [if_pos h2] at h; cases h
  rw [if_neg h2] at h ⊢
  by_cases h3 : b.length < 8 + beNat (b.take 4)
  · rw [if_pos h3] at h; cases h
  rw [if_neg h3] at h ⊢
  by_cases h4 : Crc.sum (b.take 4 ++ (b.drop 8).take (beNat (b.take 4))) = beNat ((b.drop 4).take 4)
  · rw [if_pos h4]
    refine ⟨by simp, by simp; omega, by simp; omega⟩
  · rw [if_neg h4] at h; cases h

def wholeF : Nat → List UInt8 → List (List UInt8) × Nat
  | 0, _ => ([], 0)
  | k + 1, b => if (unwrapP b).2.2 = 0 then ((unwrapP b).1 :: (wholeF k (b.drop (unwrapP b).2.1)).1, (unwrapP b).2.1 + (wholeF k (b.drop (unwrapP b).2.1)).2) else ([], 0)
def wholeP (b : List UInt8) : List (List UInt8) × Nat := wholeF (b.length + 1) b

/-- How far a loop over the records has come: acc is collected, at octets are taken, k more rounds are enough. -/
def WholeAt (b : List UInt8) (acc : List (List UInt8)) (at_ k : Nat) : Prop :=
  wholeP b = (acc ++ (wholeF k (b.drop at_)).1, at_ + (wholeF k (b.drop at_)).2) ∧ b.length < at_ + k ∧ at_ ≤ b.length ∧ 8 * acc.length ≤ at_
theorem WholeAt.start (b : List UInt8) : WholeAt b [] 0 (b.length + 1) := ⟨by simp [wholeP], by omega, by omega, by simp⟩
theorem WholeAt.step {b : List UInt8} {acc : List (List UInt8)} {at_ k : Nat} (h : WholeAt b acc at_ k) (he : (unwrapP (b.drop at_)).2.2 = 0) :
    ∃ k', k = k' + 1 ∧ WholeAt b (acc ++ [(unwrapP (b.drop at_)).1]) (at_ + (unwrapP (b.drop at_)).2.1) k' := by
  obtain ⟨h1, h2, h3, h4⟩ := h
  have h5 := unwrapP_ok he
  rw [List.length_drop] at h5
  cases k with
  | zero => omega
  | succ k =>
    refine ⟨k, rfl, ?_, by omega, by omega, by simp; omega⟩
    rw [h1, wholeF, if_pos he, List.drop_drop]
    simp [Nat.add_assoc]
theorem WholeAt.stop {b : List UInt8} {acc : List (List UInt8)} {at_ k : Nat} (h : WholeAt b acc at_ k) (he : (unwrapP (b.drop at_)).2.2 ≠ 0) : wholeP b = (acc, at_) := by
  obtain ⟨h1, h2, h3, h4⟩ := h
  cases k with
  | zero => omega
  | succ k =>
    rw [h1, wholeF, if_neg he]
    simp

theorem wholeF_bound : ∀ (k : Nat) (b : List UInt8), (wholeF k b).1.length * 8 ≤ b.length ∧ ∀ l ∈ (wholeF k b).1, l.length ≤ b.length
  | 0, b => ⟨by simp [wholeF], fun l hl => by simp [wholeF] at hl⟩
  | k + 1, b => by
    by_cases he : (unwrapP b).2.2 = 0
    · have h5 := unwrapP_ok he
      obtain ⟨i1, i2⟩ := wholeF_bound k (b.drop (unwrapP b).2.1)
      rw [List.length_drop] at i1 i2
      rw [wholeF, if_pos he]
      refine ⟨by simp; omega, fun l hl => ?_⟩
      rcases List.mem_cons.1 hl with rfl | hl
      · omega
      · have := i2 l hl
        omega
    · rw [wholeF, if_neg he]
      exact ⟨by simp, fun l hl => by simp at hl⟩

end Go.Proofs.YtlfdpkgggoafaaaDoor
