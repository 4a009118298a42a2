/-
  disk.GoodName and warrenref11.GoodName (printed by gendkgood.py).
-/
import Derived.Test.YtnlmkfncdklcdaaRows
import Derived.Test.YtnlmkfncdklcdaaStr
namespace Go.Proofs.Ytnlmkfncdklcdaa
open Go.RowKit

def chOk (b : UInt8) : Bool := decide ((97 ≤ b.toNat ∧ b.toNat ≤ 122) ∨ (48 ≤ b.toNat ∧ b.toNat ≤ 57) ∨ b.toNat = 46 ∨ b.toNat = 45 ∨ b.toNat = 95)
/-- A text that may name a file. -/
def goodB (s : ByteArray) : Bool := decide (1 ≤ s.size ∧ s.size ≤ 40) && (!(s.toList == [46]) && (!(s.toList == [46, 46]) && s.data.toList.all chOk))

theorem chOk_yes {b : UInt8} (h : chOk b = true) : (97 ≤ b.toNat ∧ b.toNat ≤ 122) ∨ (48 ≤ b.toNat ∧ b.toNat ≤ 57) ∨ b.toNat = 46 ∨ b.toNat = 45 ∨ b.toNat = 95 := of_decide_eq_true h
theorem chOk_no {b : UInt8} (h : chOk b = false) : (b.toNat < 48 ∧ b.toNat ≠ 46 ∧ b.toNat ≠ 45) ∨ (57 < b.toNat ∧ b.toNat < 97 ∧ b.toNat ≠ 95) ∨ 122 < b.toNat := by
  have := of_decide_eq_false h
  omega

theorem good_bad {s : ByteArray} {j : Nat} (hj : j < s.data.toList.length) (h : chOk s.data.toList[j] = false) : goodB s = false := by
  have : s.data.toList.all chOk = false := by
    rw [List.all_eq_false]
    exact ⟨_, List.getElem_mem hj, by rw [h]; decide⟩
  unfold goodB
  rw [this]
  simp
theorem good_all {s : ByteArray} (h : ∀ j (hj : j < s.data.toList.length), chOk s.data.toList[j] = true) : s.data.toList.all chOk = true := by
  rw [List.all_eq_true]
  intro x hx
  obtain ⟨j, hj, rfl⟩ := List.getElem_of_mem hx
  exact h j hj

set_option maxHeartbeats 3200000 in
theorem goodName (s : ByteArray) (w : World) (hs : s.size ≤ 140737488351232) : Calls Try.prog 9 #[.string s] w fun e w' => e = .returned (.bool (goodB s)) ∧ Kept noneS w w' := by
  obtain ⟨r, HR⟩ : ∃ r, Hid (goodB s = r) := ⟨_, Lib.hid rfl⟩
  rw [HR.out]
  have hsz : s.toList.length = s.size := by rw [ByteArray.toList_eq, Array.length_toList]; rfl
  by_cases h0 : s.toList = []
  · obtain rfl : r = false := by rw [← HR.out]; unfold goodB; rw [decide_eq_false (by rw [h0] at hsz; simp at hsz; omega)]; rfl
    have h0' : s.toList.isEmpty = true := by simpa using h0
    clear HR hsz
    go_enter Try.func9, Try.ntmps9
    go_wp2
    go_ret
    exact ⟨rfl, Kept.refl _ _⟩
  have h0' : s.toList.isEmpty = false := by simpa using h0
  have h01 : 1 ≤ s.size := by have := List.length_pos_iff.2 h0; omega
  by_cases h1 : 40 < s.size
  · obtain rfl : r = false := by rw [← HR.out]; unfold goodB; rw [decide_eq_false (by omega)]; rfl
    have h1' : decide (40 < (s.size : Int)) = true := by simp; omega
    clear HR hsz
    go_enter Try.func9, Try.ntmps9
    go_wp2
    go_ret
    exact ⟨rfl, Kept.refl _ _⟩
  have h1' : decide (40 < (s.size : Int)) = false := by simp; omega
  rcases h2 : (s.toList == [46]) with _ | _
  rotate_left
  · obtain rfl : r = false := by rw [← HR.out]; unfold goodB; rw [h2]; simp
    clear HR hsz
    go_enter Try.func9, Try.ntmps9
    go_wp2
    go_ret
    exact ⟨rfl, Kept.refl _ _⟩
  rcases h3 : (s.toList == [46, 46]) with _ | _
  rotate_left
  · obtain rfl : r = false := by rw [← HR.out]; unfold goodB; rw [h3]; simp
    clear HR hsz
    go_enter Try.func9, Try.ntmps9
    go_wp2
    go_ret
    exact ⟨rfl, Kept.refl _ _⟩
  have HE : Hid (s.data.toList.all chOk = true → r = true) := Lib.hid (fun q => by rw [← HR.out]; unfold goodB; rw [h2, h3, q, decide_eq_true (by omega)]; rfl)
  have hlen := bytes_size s
  have HLen := Lib.hid hlen
  have hrb := bytes_rb w 5 s
  have kb := bytes_kept w 5 s
  have RBS := Lib.hid hrb
  have KB := Lib.hid kb
  have hcv := run_bytes_of w s
  clear hrb kb hsz hlen h0
  go_enter Try.func9, Try.ntmps9
  go_wp2
  clear hcv
  generalize Lib.bytesWorld w 5 s = wb at RBS KB ⊢
  generalize grownCap w s.size 0 5 = cap
  generalize w.heap.size = bo at RBS ⊢
  go_loopw [23] (fun i wr => ∃ j : Nat, j ≤ s.size ∧ i = .int .i64 j ∧ Hid (∀ k (_ : k < j) (hk : k < s.data.toList.length), chOk s.data.toList[k] = true) ∧ Kept noneS wb wr) (fun i _ => s.size - (intOf i).toNat)
  case atStart => exact ⟨0, Nat.zero_le _, rfl, Lib.hid (fun k h => by omega), Kept.refl _ _⟩
  case round =>
    obtain ⟨j, hj, rfl, HN, hk⟩ := hrel
    have KR := Lib.hid hk
    clear hk
    by_cases hlt : j < s.size
    · have hlt' : j < s.data.toList.length := by rw [HLen.out]; exact hlt
      obtain ⟨g, o, eA, _, hc⟩ := (RBS.out.still KR.out).at_ hlt'
      injection eA with eA
      injection eA with eg eo
      subst eg eo
      rw [Nat.zero_add] at hc
      have HB : Hid (chOk s.data.toList[j] = false → goodB s = false) := Lib.hid (fun q => good_bad hlt' q)
      have HG : Hid (chOk s.data.toList[j] = true → ∀ k (_ : k < j + 1) (hk : k < s.data.toList.length), chOk s.data.toList[k] = true) := Lib.hid (fun q k h a => by
          rcases Nat.lt_or_ge k j with hk | hk
          · exact HN.out k hk a
          · obtain rfl : k = j := by omega
            exact q)
      generalize s.data.toList[j] = b at *
      have hb := b.toNat_lt
      have hji : (j : Int) < (s.size : Int) := by omega
      have hj0 : (0 : Int) ≤ (j : Int) := by omega
      rcases hq : chOk b with _ | _
      · obtain rfl : r = false := by rw [← HR.out]; exact HB.out hq
        rcases chOk_no hq with h1 | h1 | h1
        · have p1 : (decide ((b.toNat : Int) < 97)) = true := by simp; omega
          have p2 : (decide (122 < (b.toNat : Int))) = false := by simp; omega
          have p3 : (decide ((b.toNat : Int) < 48)) = true := by simp; omega
          have p4 : (decide (57 < (b.toNat : Int))) = false := by simp; omega
          have p5 : ((b.toNat : Int) != 46) = true := by simp only [bne_iff_ne, ne_eq]; omega
          have p6 : ((b.toNat : Int) != 45) = true := by simp only [bne_iff_ne, ne_eq]; omega
          have p7 : ((b.toNat : Int) != 95) = true := by simp only [bne_iff_ne, ne_eq]; omega
          clear h1 hq HB HG HR
          go_wp2
          go_ret
          exact ⟨rfl, KB.out.trans KR.out⟩
        · have p1 : (decide ((b.toNat : Int) < 97)) = true := by simp; omega
          have p2 : (decide (122 < (b.toNat : Int))) = false := by simp; omega
          have p3 : (decide ((b.toNat : Int) < 48)) = false := by simp; omega
          have p4 : (decide (57 < (b.toNat : Int))) = true := by simp; omega
          have p5 : ((b.toNat : Int) != 46) = true := by simp only [bne_iff_ne, ne_eq]; omega
          have p6 : ((b.toNat : Int) != 45) = true := by simp only [bne_iff_ne, ne_eq]; omega
          have p7 : ((b.toNat : Int) != 95) = true := by simp only [bne_iff_ne, ne_eq]; omega
          clear h1 hq HB HG HR
          go_wp2
          go_ret
          exact ⟨rfl, KB.out.trans KR.out⟩
        · have p1 : (decide ((b.toNat : Int) < 97)) = false := by simp; omega
          have p2 : (decide (122 < (b.toNat : Int))) = true := by simp; omega
          have p3 : (decide ((b.toNat : Int) < 48)) = false := by simp; omega
          have p4 : (decide (57 < (b.toNat : Int))) = true := by simp; omega
          have p5 : ((b.toNat : Int) != 46) = true := by simp only [bne_iff_ne, ne_eq]; omega
          have p6 : ((b.toNat : Int) != 45) = true := by simp only [bne_iff_ne, ne_eq]; omega
          have p7 : ((b.toNat : Int) != 95) = true := by simp only [bne_iff_ne, ne_eq]; omega
          clear h1 hq HB HG HR
          go_wp2
          go_ret
          exact ⟨rfl, KB.out.trans KR.out⟩
      · have HG' := Lib.hid (HG.out hq)
        rcases chOk_yes hq with h1 | h1 | h1 | h1 | h1
        · have p1 : (decide ((b.toNat : Int) < 97)) = false := by simp; omega
          have p2 : (decide (122 < (b.toNat : Int))) = false := by simp; omega
          have p3 : (decide ((b.toNat : Int) < 48)) = false := by simp; omega
          have p4 : (decide (57 < (b.toNat : Int))) = true := by simp; omega
          have p5 : ((b.toNat : Int) != 46) = true := by simp only [bne_iff_ne, ne_eq]; omega
          have p6 : ((b.toNat : Int) != 45) = true := by simp only [bne_iff_ne, ne_eq]; omega
          have p7 : ((b.toNat : Int) != 95) = true := by simp only [bne_iff_ne, ne_eq]; omega
          clear h1 hq HB HG
          go_wp2
          go_roundw
          case rel => exact ⟨j + 1, by omega, by go_num, HG', KR.out⟩
          case measure => simp [intOf]; omega
        · have p1 : (decide ((b.toNat : Int) < 97)) = true := by simp; omega
          have p2 : (decide (122 < (b.toNat : Int))) = false := by simp; omega
          have p3 : (decide ((b.toNat : Int) < 48)) = false := by simp; omega
          have p4 : (decide (57 < (b.toNat : Int))) = false := by simp; omega
          have p5 : ((b.toNat : Int) != 46) = true := by simp only [bne_iff_ne, ne_eq]; omega
          have p6 : ((b.toNat : Int) != 45) = true := by simp only [bne_iff_ne, ne_eq]; omega
          have p7 : ((b.toNat : Int) != 95) = true := by simp only [bne_iff_ne, ne_eq]; omega
          clear h1 hq HB HG
          go_wp2
          go_roundw
          case rel => exact ⟨j + 1, by omega, by go_num, HG', KR.out⟩
          case measure => simp [intOf]; omega
        · have p1 : (decide ((b.toNat : Int) < 97)) = true := by simp; omega
          have p2 : (decide (122 < (b.toNat : Int))) = false := by simp; omega
          have p3 : (decide ((b.toNat : Int) < 48)) = true := by simp; omega
          have p4 : (decide (57 < (b.toNat : Int))) = false := by simp; omega
          have p5 : ((b.toNat : Int) != 46) = false := by simp only [bne_eq_false_iff_eq]; omega
          have p6 : ((b.toNat : Int) != 45) = true := by simp only [bne_iff_ne, ne_eq]; omega
          have p7 : ((b.toNat : Int) != 95) = true := by simp only [bne_iff_ne, ne_eq]; omega
          clear h1 hq HB HG
          go_wp2
          go_roundw
          case rel => exact ⟨j + 1, by omega, by go_num, HG', KR.out⟩
          case measure => simp [intOf]; omega
        · have p1 : (decide ((b.toNat : Int) < 97)) = true := by simp; omega
          have p2 : (decide (122 < (b.toNat : Int))) = false := by simp; omega
          have p3 : (decide ((b.toNat : Int) < 48)) = true := by simp; omega
          have p4 : (decide (57 < (b.toNat : Int))) = false := by simp; omega
          have p5 : ((b.toNat : Int) != 46) = true := by simp only [bne_iff_ne, ne_eq]; omega
          have p6 : ((b.toNat : Int) != 45) = false := by simp only [bne_eq_false_iff_eq]; omega
          have p7 : ((b.toNat : Int) != 95) = true := by simp only [bne_iff_ne, ne_eq]; omega
          clear h1 hq HB HG
          go_wp2
          go_roundw
          case rel => exact ⟨j + 1, by omega, by go_num, HG', KR.out⟩
          case measure => simp [intOf]; omega
        · have p1 : (decide ((b.toNat : Int) < 97)) = true := by simp; omega
          have p2 : (decide (122 < (b.toNat : Int))) = false := by simp; omega
          have p3 : (decide ((b.toNat : Int) < 48)) = false := by simp; omega
          have p4 : (decide (57 < (b.toNat : Int))) = true := by simp; omega
          have p5 : ((b.toNat : Int) != 46) = true := by simp only [bne_iff_ne, ne_eq]; omega
          have p6 : ((b.toNat : Int) != 45) = true := by simp only [bne_iff_ne, ne_eq]; omega
          have p7 : ((b.toNat : Int) != 95) = false := by simp only [bne_eq_false_iff_eq]; omega
          clear h1 hq HB HG
          go_wp2
          go_roundw
          case rel => exact ⟨j + 1, by omega, by go_num, HG', KR.out⟩
          case measure => simp [intOf]; omega
    · obtain rfl : j = s.size := by omega
      obtain rfl : r = true := HE.out (good_all (fun k hk => HN.out k (by rw [HLen.out] at hk; exact hk) hk))
      clear HE HR
      go_wp2
      go_ret
      exact ⟨rfl, KB.out.trans KR.out⟩

set_option maxHeartbeats 3200000 in
theorem refGood (s : ByteArray) (w : World) (hs : s.size ≤ 140737488351232) : Calls Try.prog 10 #[.string s] w fun e w' => e = .returned (.bool (goodB s)) ∧ w = w' := by
  obtain ⟨r, HR⟩ : ∃ r, Hid (goodB s = r) := ⟨_, Lib.hid rfl⟩
  rw [HR.out]
  have HLen := Lib.hid (bytes_size s)
  have HE : Hid (s.data.toList.all chOk = true → r = (decide (1 ≤ s.size ∧ s.size ≤ 40) && (!(s.toList == [46]) && !(s.toList == [46, 46])))) := Lib.hid (fun q => by rw [← HR.out]; unfold goodB; rw [q]; simp)
  go_enter Try.func10, Try.ntmps10
  go_wp2
  go_loop [3] (fun i => ∃ j : Nat, j ≤ s.size ∧ i = .int .i64 j ∧ Hid (∀ k (_ : k < j) (hk : k < s.data.toList.length), chOk s.data.toList[k] = true)) (fun i => s.size - (intOf i).toNat)
  case atStart => exact ⟨0, Nat.zero_le _, rfl, Lib.hid (fun k h => by omega)⟩
  case round =>
    obtain ⟨j, hj, rfl, HN⟩ := hrel
    by_cases hlt : j < s.size
    · have hlt' : j < s.data.toList.length := by rw [HLen.out]; exact hlt
      have HB : Hid (chOk s.data.toList[j] = false → goodB s = false) := Lib.hid (fun q => good_bad hlt' q)
      have HG : Hid (chOk s.data.toList[j] = true → ∀ k (_ : k < j + 1) (hk : k < s.data.toList.length), chOk s.data.toList[k] = true) := Lib.hid (fun q k h a => by
          rcases Nat.lt_or_ge k j with hk | hk
          · exact HN.out k hk a
          · obtain rfl : k = j := by omega
            exact q)
      have hbj : s.data.toList[j] = s[j] := rfl
      rw [hbj] at HB HG
      clear hbj
      have hb : (s[j]).toNat < 256 := (s[j]).toNat_lt
      have hji : (j : Int) < (s.size : Int) := by omega
      have hj0 : (0 : Int) ≤ (j : Int) := by omega
      rcases hq : chOk s[j] with _ | _
      · obtain rfl : r = false := by rw [← HR.out]; exact HB.out hq
        rcases chOk_no hq with h1 | h1 | h1
        · have p1 : (decide (97 ≤ ((s[j]).toNat : Int))) = false := by simp; omega
          have p2 : (decide (((s[j]).toNat : Int) ≤ 122)) = true := by simp; omega
          have p3 : (decide (48 ≤ ((s[j]).toNat : Int))) = false := by simp; omega
          have p4 : (decide (((s[j]).toNat : Int) ≤ 57)) = true := by simp; omega
          have p5 : (((s[j]).toNat : Int) == 46) = false := by simp only [ne_eq, beq_eq_false_iff_ne]; omega
          have p6 : (((s[j]).toNat : Int) == 45) = false := by simp only [ne_eq, beq_eq_false_iff_ne]; omega
          have p7 : (((s[j]).toNat : Int) == 95) = false := by simp only [ne_eq, beq_eq_false_iff_ne]; omega
          clear h1 hq HB HG HR
          go_wp2
          go_ret
          exact ⟨rfl, rfl⟩
        · have p1 : (decide (97 ≤ ((s[j]).toNat : Int))) = false := by simp; omega
          have p2 : (decide (((s[j]).toNat : Int) ≤ 122)) = true := by simp; omega
          have p3 : (decide (48 ≤ ((s[j]).toNat : Int))) = true := by simp; omega
          have p4 : (decide (((s[j]).toNat : Int) ≤ 57)) = false := by simp; omega
          have p5 : (((s[j]).toNat : Int) == 46) = false := by simp only [ne_eq, beq_eq_false_iff_ne]; omega
          have p6 : (((s[j]).toNat : Int) == 45) = false := by simp only [ne_eq, beq_eq_false_iff_ne]; omega
          have p7 : (((s[j]).toNat : Int) == 95) = false := by simp only [ne_eq, beq_eq_false_iff_ne]; omega
          clear h1 hq HB HG HR
          go_wp2
          go_ret
          exact ⟨rfl, rfl⟩
        · have p1 : (decide (97 ≤ ((s[j]).toNat : Int))) = true := by simp; omega
          have p2 : (decide (((s[j]).toNat : Int) ≤ 122)) = false := by simp; omega
          have p3 : (decide (48 ≤ ((s[j]).toNat : Int))) = true := by simp; omega
          have p4 : (decide (((s[j]).toNat : Int) ≤ 57)) = false := by simp; omega
          have p5 : (((s[j]).toNat : Int) == 46) = false := by simp only [ne_eq, beq_eq_false_iff_ne]; omega
          have p6 : (((s[j]).toNat : Int) == 45) = false := by simp only [ne_eq, beq_eq_false_iff_ne]; omega
          have p7 : (((s[j]).toNat : Int) == 95) = false := by simp only [ne_eq, beq_eq_false_iff_ne]; omega
          clear h1 hq HB HG HR
          go_wp2
          go_ret
          exact ⟨rfl, rfl⟩
      · have HG' := Lib.hid (HG.out hq)
        rcases chOk_yes hq with h1 | h1 | h1 | h1 | h1
        · have p1 : (decide (97 ≤ ((s[j]).toNat : Int))) = true := by simp; omega
          have p2 : (decide (((s[j]).toNat : Int) ≤ 122)) = true := by simp; omega
          have p3 : (decide (48 ≤ ((s[j]).toNat : Int))) = true := by simp; omega
          have p4 : (decide (((s[j]).toNat : Int) ≤ 57)) = false := by simp; omega
          have p5 : (((s[j]).toNat : Int) == 46) = false := by simp only [ne_eq, beq_eq_false_iff_ne]; omega
          have p6 : (((s[j]).toNat : Int) == 45) = false := by simp only [ne_eq, beq_eq_false_iff_ne]; omega
          have p7 : (((s[j]).toNat : Int) == 95) = false := by simp only [ne_eq, beq_eq_false_iff_ne]; omega
          clear h1 hq HB HG
          go_wp2
          go_round
          case rel => exact ⟨j + 1, by omega, by go_num, HG'⟩
          case measure => simp [intOf]; omega
        · have p1 : (decide (97 ≤ ((s[j]).toNat : Int))) = false := by simp; omega
          have p2 : (decide (((s[j]).toNat : Int) ≤ 122)) = true := by simp; omega
          have p3 : (decide (48 ≤ ((s[j]).toNat : Int))) = true := by simp; omega
          have p4 : (decide (((s[j]).toNat : Int) ≤ 57)) = true := by simp; omega
          have p5 : (((s[j]).toNat : Int) == 46) = false := by simp only [ne_eq, beq_eq_false_iff_ne]; omega
          have p6 : (((s[j]).toNat : Int) == 45) = false := by simp only [ne_eq, beq_eq_false_iff_ne]; omega
          have p7 : (((s[j]).toNat : Int) == 95) = false := by simp only [ne_eq, beq_eq_false_iff_ne]; omega
          clear h1 hq HB HG
          go_wp2
          go_round
          case rel => exact ⟨j + 1, by omega, by go_num, HG'⟩
          case measure => simp [intOf]; omega
        · have p1 : (decide (97 ≤ ((s[j]).toNat : Int))) = false := by simp; omega
          have p2 : (decide (((s[j]).toNat : Int) ≤ 122)) = true := by simp; omega
          have p3 : (decide (48 ≤ ((s[j]).toNat : Int))) = false := by simp; omega
          have p4 : (decide (((s[j]).toNat : Int) ≤ 57)) = true := by simp; omega
          have p5 : (((s[j]).toNat : Int) == 46) = true := by simp only [beq_iff_eq]; omega
          have p6 : (((s[j]).toNat : Int) == 45) = false := by simp only [ne_eq, beq_eq_false_iff_ne]; omega
          have p7 : (((s[j]).toNat : Int) == 95) = false := by simp only [ne_eq, beq_eq_false_iff_ne]; omega
          clear h1 hq HB HG
          go_wp2
          go_round
          case rel => exact ⟨j + 1, by omega, by go_num, HG'⟩
          case measure => simp [intOf]; omega
        · have p1 : (decide (97 ≤ ((s[j]).toNat : Int))) = false := by simp; omega
          have p2 : (decide (((s[j]).toNat : Int) ≤ 122)) = true := by simp; omega
          have p3 : (decide (48 ≤ ((s[j]).toNat : Int))) = false := by simp; omega
          have p4 : (decide (((s[j]).toNat : Int) ≤ 57)) = true := by simp; omega
          have p5 : (((s[j]).toNat : Int) == 46) = false := by simp only [ne_eq, beq_eq_false_iff_ne]; omega
          have p6 : (((s[j]).toNat : Int) == 45) = true := by simp only [beq_iff_eq]; omega
          have p7 : (((s[j]).toNat : Int) == 95) = false := by simp only [ne_eq, beq_eq_false_iff_ne]; omega
          clear h1 hq HB HG
          go_wp2
          go_round
          case rel => exact ⟨j + 1, by omega, by go_num, HG'⟩
          case measure => simp [intOf]; omega
        · have p1 : (decide (97 ≤ ((s[j]).toNat : Int))) = false := by simp; omega
          have p2 : (decide (((s[j]).toNat : Int) ≤ 122)) = true := by simp; omega
          have p3 : (decide (48 ≤ ((s[j]).toNat : Int))) = true := by simp; omega
          have p4 : (decide (((s[j]).toNat : Int) ≤ 57)) = false := by simp; omega
          have p5 : (((s[j]).toNat : Int) == 46) = false := by simp only [ne_eq, beq_eq_false_iff_ne]; omega
          have p6 : (((s[j]).toNat : Int) == 45) = false := by simp only [ne_eq, beq_eq_false_iff_ne]; omega
          have p7 : (((s[j]).toNat : Int) == 95) = true := by simp only [beq_iff_eq]; omega
          clear h1 hq HB HG
          go_wp2
          go_round
          case rel => exact ⟨j + 1, by omega, by go_num, HG'⟩
          case measure => simp [intOf]; omega
    · obtain rfl : j = s.size := by omega
      have HE' := Lib.hid (HE.out (good_all (fun k hk => HN.out k (by rw [HLen.out] at hk; exact hk) hk)))
      clear HE HR
      by_cases a1 : 1 ≤ s.size
      · have b1 : decide (0 < (s.size : Int)) = true := by simp; omega
        have b1' : 0 < s.size := by omega
        by_cases a2 : s.size ≤ 40
        · have b2 : decide ((s.size : Int) < 41) = true := by simp; omega
          rcases a3 : (s.toList == [46]) with _ | _
          · rcases a4 : (s.toList == [46, 46]) with _ | _
            · obtain rfl : r = true := by rw [HE'.out, a3, a4, decide_eq_true ⟨a1, a2⟩]; rfl
              clear HE'
              go_wp2
              go_ret
              exact ⟨rfl, rfl⟩
            · obtain rfl : r = false := by rw [HE'.out, a3, a4]; simp
              clear HE'
              go_wp2
              go_ret
              exact ⟨rfl, rfl⟩
          · obtain rfl : r = false := by rw [HE'.out, a3]; simp
            clear HE'
            go_wp2
            go_ret
            exact ⟨rfl, rfl⟩
        · have b2 : decide ((s.size : Int) < 41) = false := by simp; omega
          obtain rfl : r = false := by rw [HE'.out, decide_eq_false (fun q => a2 q.2)]; rfl
          clear HE'
          go_wp2
          go_ret
          exact ⟨rfl, rfl⟩
      · have b1 : decide (0 < (s.size : Int)) = false := decide_eq_false (by omega)
        have b1' : ¬ 0 < s.size := by omega
        obtain rfl : r = false := by rw [HE'.out, decide_eq_false (fun q => a1 q.1)]; rfl
        clear HE'
        go_wp2
        go_ret
        exact ⟨rfl, rfl⟩

end Go.Proofs.Ytnlmkfncdklcdaa
