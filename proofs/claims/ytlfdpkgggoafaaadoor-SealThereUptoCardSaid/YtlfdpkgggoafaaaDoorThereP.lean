/-
  Records one behind the other are read again: plain.
-/
import Derived.Test.YtlfdpkgggoafaaaDoorWholeP
namespace Go.Proofs.YtlfdpkgggoafaaaDoor

theorem unwrap_rec (d r : List UInt8) (hd : d.length ≤ 1048576) : unwrapP (sealRec d ++ r) = (d, 8 + d.length, 0) := by
  have hlen := sealRec_length d
  have hS : Crc.sum (be 4 (d.length : Int) ++ d) < 256 ^ 4 := Crc.xor_lt (Crc.over_lt _ (by decide)) (by decide)
  have hb4 : (be 4 (d.length : Int)).length = 4 := be_length _ _
  have hs4 : (be 4 (Crc.sum (be 4 (d.length : Int) ++ d) : Int)).length = 4 := be_length _ _
  have hn : beNat (be 4 (d.length : Int)) = d.length := beNat_be 4 d.length (by omega)
  have hsn : beNat (be 4 (Crc.sum (be 4 (d.length : Int) ++ d) : Int)) = Crc.sum (be 4 (d.length : Int) ++ d) := beNat_be 4 _ hS
  have hR : sealRec d ++ r = be 4 (d.length : Int) ++ (be 4 (Crc.sum (be 4 (d.length : Int) ++ d) : Int) ++ (d ++ r)) := by unfold sealRec; simp [List.append_assoc]
  have hl : (sealRec d ++ r).length = 8 + d.length + r.length := by rw [List.length_append, hlen]; omega
  generalize hSS : Crc.sum (be 4 (d.length : Int) ++ d) = S at hS hs4 hsn hR
  generalize be 4 (d.length : Int) = b4 at hb4 hn hR hSS
  generalize be 4 (S : Int) = s4 at hs4 hsn hR
  have e1 : (sealRec d ++ r).take 4 = b4 := by rw [hR, List.take_append_of_le_length (by omega), List.take_of_length_le (by omega)]
  have e2 : ((sealRec d ++ r).drop 4).take 4 = s4 := by
    rw [hR, List.drop_append_of_le_length (by omega), List.drop_of_length_le (by omega), List.nil_append, List.take_append_of_le_length (by omega), List.take_of_length_le (by omega)]
  have e3 : ((sealRec d ++ r).drop 8).take d.length = d := by
    rw [hR, ← List.append_assoc, List.drop_append_of_le_length (by simp; omega), List.drop_of_length_le (by simp; omega), List.nil_append, List.take_append_of_le_length (by omega), List.take_of_length_le (by omega)]
  unfold unwrapP
  rw [e1, hn, e2, e3, hl, if_neg (by omega), if_neg (by omega), if_neg (by omega), hsn, hSS, if_pos rfl]

def recs (ls : List (List UInt8)) : List UInt8 := ls.flatMap sealRec
theorem recs_cons (l : List UInt8) (ls : List (List UInt8)) : recs (l :: ls) = sealRec l ++ recs ls := rfl
theorem recs_append (l r : List (List UInt8)) : recs (l ++ r) = recs l ++ recs r := by simp [recs]

theorem wholeF_recs (ls : List (List UInt8)) (hl : ∀ l ∈ ls, l.length ≤ 1048576) (t : List UInt8) : ∀ k, wholeF (ls.length + k) (recs ls ++ t) = (ls ++ (wholeF k t).1, (recs ls).length + (wholeF k t).2) := by
  induction ls with
  | nil => intro k; simp [recs]
  | cons l ls ih =>
    intro k
    have h1 := unwrap_rec l (recs ls ++ t) (hl l List.mem_cons_self)
    rw [recs_cons, List.length_cons, show ls.length + 1 + k = (ls.length + k) + 1 by omega, wholeF, List.append_assoc, h1, if_pos rfl]
    have h2 : (sealRec l ++ (recs ls ++ t)).drop (8 + l.length) = recs ls ++ t := by
      have := sealRec_length l
      rw [List.drop_append_of_le_length (by omega), List.drop_of_length_le (by omega), List.nil_append]
    have h3 := ih (fun m hm => hl m (List.mem_cons_of_mem _ hm)) k
    simp only [h2, h3, List.cons_append, List.length_append, sealRec_length, Prod.mk.injEq, true_and]
    omega
theorem recs_length (ls : List (List UInt8)) : ls.length * 8 ≤ (recs ls).length := by
  induction ls with
  | nil => simp [recs]
  | cons l ls ih => rw [recs_cons, List.length_append, sealRec_length, List.length_cons]; omega
theorem whole_recs (ls : List (List UInt8)) (hl : ∀ l ∈ ls, l.length ≤ 1048576) (t : List UInt8) : ∃ k, t.length < k ∧ wholeP (recs ls ++ t) = (ls ++ (wholeF k t).1, (recs ls).length + (wholeF k t).2) := by
  have h := recs_length ls
  refine ⟨(recs ls ++ t).length + 1 - ls.length, by simp; omega, ?_⟩
  have h1 := wholeF_recs ls hl t ((recs ls ++ t).length + 1 - ls.length)
  rw [show ls.length + ((recs ls ++ t).length + 1 - ls.length) = (recs ls ++ t).length + 1 by simp; omega] at h1
  exact h1
theorem whole_none {t : List UInt8} (h : (unwrapP t).2.2 ≠ 0) {k : Nat} (hk : t.length < k) : wholeF k t = ([], 0) := by
  cases k with
  | zero => omega
  | succ k => rw [wholeF, if_neg h]
theorem unwrap_short {t : List UInt8} (h : t.length < 8) : (unwrapP t).2.2 ≠ 0 := by
  unfold unwrapP
  rw [if_pos h]
  decide
theorem unwrap_noughts (n : Nat) (hn : 8 ≤ n) (r : List UInt8) : (unwrapP (List.replicate n 0 ++ r)).2.2 ≠ 0 := by
  obtain ⟨m, rfl⟩ : ∃ m, n = 8 + m := ⟨n - 8, by omega⟩
  rw [← List.replicate_append_replicate, List.append_assoc]
  generalize List.replicate m 0 ++ r = t
  have e1 : (List.replicate 8 (0 : UInt8) ++ t).take 4 = [0, 0, 0, 0] := rfl
  have e2 : ((List.replicate 8 (0 : UInt8) ++ t).drop 4).take 4 = [0, 0, 0, 0] := rfl
  have e3 : beNat [0, 0, 0, 0] = 0 := rfl
  unfold unwrapP
  rw [e1, e2, e3, if_neg (by simp), if_neg (by decide), if_neg (by simp), List.take_zero, List.append_nil, if_neg (by decide +kernel)]
  decide

end Go.Proofs.YtlfdpkgggoafaaaDoor
