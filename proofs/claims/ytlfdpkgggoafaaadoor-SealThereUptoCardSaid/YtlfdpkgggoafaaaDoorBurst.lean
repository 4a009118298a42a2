/-
  A record of which one octet behind the length is another one: the plain law.
-/
import Derived.Test.YtlfdpkgggoafaaaDoorRef02u
namespace Go.Proofs.YtlfdpkgggoafaaaDoor

theorem set_split (l : List UInt8) (j : Nat) (h : j < l.length) (x : UInt8) : l = l.take j ++ l[j] :: l.drop (j + 1) ∧ l.set j x = l.take j ++ x :: l.drop (j + 1) := by
  refine ⟨?_, ?_⟩
  · rw [List.getElem_cons_drop h, List.take_append_drop]
  · rw [List.set_eq_take_append_cons_drop, if_pos h]

theorem burst (d : List UInt8) (hd : d.length ≤ 1048576) (j : Nat) (h4 : 4 ≤ j) (hj : j < (sealRec d).length) (x : UInt8) (hx : x ≠ (sealRec d)[j]) :
    unwrapP ((sealRec d).set j x) = ([], 0, 9) := by
  have hlen := sealRec_length d
  have hS : Crc.sum (be 4 (d.length : Int) ++ d) < 256 ^ 4 := Crc.xor_lt (Crc.over_lt _ (by decide)) (by decide)
  have hb4 : (be 4 (d.length : Int)).length = 4 := be_length _ _
  have hs4 : (be 4 (Crc.sum (be 4 (d.length : Int) ++ d) : Int)).length = 4 := be_length _ _
  have hn : beNat (be 4 (d.length : Int)) = d.length := beNat_be 4 d.length (by omega)
  have hsn : beNat (be 4 (Crc.sum (be 4 (d.length : Int) ++ d) : Int)) = Crc.sum (be 4 (d.length : Int) ++ d) := beNat_be 4 _ hS
  have hR : sealRec d = be 4 (d.length : Int) ++ (be 4 (Crc.sum (be 4 (d.length : Int) ++ d) : Int) ++ d) := by unfold sealRec; rw [List.append_assoc]
  generalize hSS : Crc.sum (be 4 (d.length : Int) ++ d) = S at hS hs4 hsn hR
  generalize be 4 (d.length : Int) = b4 at hb4 hn hR hSS
  generalize hs : be 4 (S : Int) = s4 at hs4 hsn hR
  have e4 : ((sealRec d).set j x).take 4 = b4 := by
    rw [List.take_set_of_le (by omega), hR, List.take_append_of_le_length (by omega), List.take_of_length_le (by omega)]
  have e0 : ((sealRec d).set j x).length = 8 + d.length := by rw [List.length_set]; omega
  unfold unwrapP
  rw [e4, e0, hn, if_neg (by omega), if_neg (by omega), if_neg (by omega), if_neg]
  by_cases h8 : j < 8
  · have ed : (((sealRec d).set j x).drop 8).take d.length = d := by
      rw [List.drop_set_of_lt h8, hR, ← List.append_assoc, List.drop_append_of_le_length (by simp; omega), List.drop_of_length_le (by simp; omega), List.nil_append, List.take_of_length_le (by omega)]
    have es : (((sealRec d).set j x).drop 4).take 4 = s4.set (j - 4) x := by
      rw [List.drop_set, if_neg (by omega), hR, List.drop_append_of_le_length (by omega), List.drop_of_length_le (by omega), List.nil_append, List.take_set, List.take_append_of_le_length (by omega), List.take_of_length_le (by omega)]
    rw [ed, es, hSS]
    intro hq
    have hb := be_beNat (s4.set (j - 4) x)
    rw [List.length_set, hs4, ← hq, hs] at hb
    have hi : j - 4 < s4.length := by omega
    have h1 : s4[j - 4]? = some x := by
      conv => lhs; rw [hb]
      simp [hi]
    apply hx
    have h2 : (sealRec d)[j]? = some x := by
      rw [hR, List.getElem?_append_right (by omega), hb4, List.getElem?_append_left (by omega)]
      exact h1
    rw [List.getElem?_eq_getElem hj] at h2
    injection h2 with h2
    exact h2.symm
  · have ed : (((sealRec d).set j x).drop 8).take d.length = d.set (j - 8) x := by
      rw [List.drop_set, if_neg (by omega), hR, ← List.append_assoc, List.drop_append_of_le_length (by simp; omega), List.drop_of_length_le (by simp; omega), List.nil_append, List.take_of_length_le (by simp)]
    have es : (((sealRec d).set j x).drop 4).take 4 = s4 := by
      rw [List.drop_set, if_neg (by omega), List.take_set_of_le (by omega), hR, List.drop_append_of_le_length (by omega), List.drop_of_length_le (by omega), List.nil_append, List.take_append_of_le_length (by omega), List.take_of_length_le (by omega)]
    rw [ed, es, hsn, ← hSS]
    intro hq
    have hi : j - 8 < d.length := by omega
    obtain ⟨s1, s2⟩ := set_split d (j - 8) hi x
    rw [s2] at hq
    conv at hq => rhs; rw [s1]
    rw [← List.append_assoc, ← List.append_assoc] at hq
    have h3 := Crc.sum_byte _ _ _ _ hq
    apply hx
    have h2 : (sealRec d)[j]? = some d[j - 8] := by
      rw [hR, List.getElem?_append_right (by omega), hb4, List.getElem?_append_right (by omega), hs4, show j - 4 - 4 = j - 8 by omega, List.getElem?_eq_getElem hi]
    rw [List.getElem?_eq_getElem hj] at h2
    injection h2 with h2
    rw [h2, h3]

end Go.Proofs.YtlfdpkgggoafaaaDoor
