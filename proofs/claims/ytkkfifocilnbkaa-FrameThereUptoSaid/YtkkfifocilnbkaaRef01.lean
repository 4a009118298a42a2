/-
  Contracts of warrenref01.Num, Copy, Val.
-/
import Derived.Test.YtkkfifocilnbkaaOctR
namespace Go.Proofs.Ytkkfifocilnbkaa
open Go.RowKit

theorem be_byte (n : Int) (j : Nat) (hj : j ≤ 7) : lo8 (n % 18446744073709551616 / ((256 ^ j : Nat) : Int) % 256) = lo8 (n / 2 ^ (8 * j)) := by
  have e : ((256 ^ j : Nat) : Int) = 2 ^ (8 * j) := by
    rw [show (256 : Nat) = 2 ^ 8 from rfl, ← Nat.pow_mul]
    simp
  have h3 : n % 18446744073709551616 / 2 ^ (8 * j) % 256 = n / 2 ^ (8 * j) % 256 := by
    rcases j with _|_|_|_|_|_|_|_|j
    · simp only [Nat.mul_zero, Int.pow_zero]; omega
    all_goals omega
  rw [e, h3]
  unfold lo8
  congr 2
  omega

set_option maxHeartbeats 800000 in
theorem refNum (k : Nat) (hk8 : k ≤ 8) (n : Int) (w : World) (hlo : -9223372036854775808 ≤ n) (hhi : n ≤ 9223372036854775807) :
    Calls Try.prog 31 #[.int .i64 (k : Int), .int .i64 n] w fun e w' => ∃ A c, e = .returned (.slice A (be k n).length c) ∧ OB w' (w.heap.size ≤ ·) (.slice A (be k n).length c) (be k n) ∧ Kept noneS w w' := by
  obtain ⟨U, hU, hUb, hUn⟩ : ∃ U : Nat, IntKind.u64.wrap n = (U : Int) ∧ U ≤ 18446744073709551615 ∧ Hid ((U : Int) = n % 18446744073709551616) := by
    refine ⟨(n % 18446744073709551616).toNat, ?_, by omega, Lib.hid (by omega)⟩
    rw [IntKind.wrap_u64]
    omega
  go_enter Try.func31, Try.ntmps31
  go_wp2
  go_loopw [5, 7, 8, 9] (fun v i _ _ wr => ∃ (j : Nat) (cur : List UInt8), j ≤ k ∧ i = .int .i64 j ∧ Hid (cur ++ be (k - j) n = be k n) ∧ OB wr (w.heap.size ≤ ·) v cur ∧ Kept noneS w wr) (fun _ i _ _ _ => k - (intOf i).toNat)
  case atStart => exact ⟨0, [], Nat.zero_le _, rfl, Lib.hid (by simp), Own.empty _ _ _ _ (Nat.le_refl _), (Kept.refl _ _).alloc _⟩
  case round =>
    obtain ⟨j, cur, hj, rfl, HC, hob, hkept⟩ := hrel
    have hlen : cur.length + (k - j) = k := by have := congrArg List.length HC.out; simpa [be_length] using this
    obtain ⟨A, cap, rfl, hcap, _⟩ := Own.form hob
    have HO := Lib.hid hob
    have HK := Lib.hid hkept
    clear hob hkept hcap
    by_cases hlt : j < k
    · go_wp2
      go_loop [8, 9] (fun p i => ∃ (q P : Nat), j + 1 ≤ q ∧ q ≤ k ∧ i = .int .i64 q ∧ p = .int .u64 P ∧ Hid (P = 256 ^ (q - (j + 1))) ∧ 1 ≤ P) (fun _ i => k - (intOf i).toNat)
      case atStart => exact ⟨j + 1, 1, Nat.le_refl _, hlt, by go_num, rfl, Lib.hid (by simp), by decide⟩
      case round =>
        obtain ⟨q, P, hq1, hq2, rfl, rfl, HP, hP1⟩ := hrel
        by_cases hqk : q < k
        · have hPb : P ≤ 281474976710656 := by
            rw [HP.out]
            exact Nat.le_trans (Nat.pow_le_pow_right (by decide) (show q - (j + 1) ≤ 6 by omega)) (by decide)
          go_wp2
          go_round
          case rel => exact ⟨q + 1, P * 256, by omega, by omega, by go_num, by go_num, Lib.hid (by rw [HP.out, show q + 1 - (j + 1) = (q - (j + 1)) + 1 by omega, Nat.pow_succ]), by omega⟩
          case measure => simp [intOf]; omega
        · obtain rfl : q = k := by omega
          have HBE : Hid (be (q - j) n = lo8 ((U : Int) / (P : Int) % 256) :: be (q - (j + 1)) n) := Lib.hid (by
            rw [HP.out, hUn.out, be_byte n _ (by omega), show q - j = (q - (j + 1)) + 1 by omega, be])
          clear HP
          obtain ⟨D, hD1, hD2, hDb, HD⟩ : ∃ D : Nat, (U : Int).tdiv (P : Int) = (D : Int) ∧ (U : Int) / (P : Int) = (D : Int) ∧ D ≤ 18446744073709551615 ∧ Hid ((U : Int) / (P : Int) = (D : Int)) :=
            ⟨U / P, by rw [Int.tdiv_eq_ediv_of_nonneg (by omega)]; exact (Int.natCast_ediv U P).symm, (Int.natCast_ediv U P).symm, Nat.le_trans (Nat.div_le_self U P) hUb, Lib.hid (Int.natCast_ediv U P).symm⟩
          rw [HD.out] at HBE
          clear HD
          go_wp2_with (at_builtin; refine wpList_app1 rfl (.tmp 27) (.tmp 33) rfl (w.heap.size ≤ ·) (.slice A cur.length cap) cur rfl (Own.alloc HO.out _) wr.heap.size (lo8 ((D : Int) % 256)) rfl (by simp [lo8_val]) (by omega) (by have := HK.out.size; simp; omega) ?_; intro A1 cap1 w1 hown hcap1 hk; have HO1 := Lib.hid hown; have HK1 := Lib.hid hk; clear hown hk)
          go_roundw
          case rel =>
            refine ⟨j + 1, cur ++ [lo8 ((D : Int) % 256)], by omega, by go_num, Lib.hid ?_, HO1.out, ?_⟩
            · rw [List.append_assoc, List.singleton_append, ← HBE.out]; exact HC.out
            · exact (HK.out.alloc _).trans2 HK1.out (fun i hi h => by have := HO.out.2 i h; omega)
          case measure => simp [intOf]; omega
    · obtain rfl : j = k := by omega
      go_wp2
      go_ret
      have h0 := HC.out
      simp only [Nat.sub_self, be, List.append_nil] at h0
      subst h0
      exact ⟨A, cap, rfl, HO.out, HK.out⟩

set_option maxHeartbeats 400000 in
theorem refCopy (A : Option Addr) (c : Nat) (xs : List UInt8) (F : Nat → Prop) (w : World) (hx : RB w F A xs) (hn : xs.length ≤ 140737488351232) :
    Calls Try.prog 40 #[.slice A xs.length c] w fun e w' => ∃ A' c', e = .returned (.slice A' xs.length c') ∧ OB w' (w.heap.size ≤ ·) (.slice A' xs.length c') xs ∧ Kept noneS w w' := by
  have HX := Lib.hid (hx.mono (G := (· < w.heap.size)) fun _ h _ => h)
  clear hx
  go_enter Try.func40, Try.ntmps40
  go_wp2
  go_loopw [3, 4] (fun v i wr => ∃ (j : Nat), j ≤ xs.length ∧ i = .int .i64 j ∧ OB wr (w.heap.size ≤ ·) v (xs.take j) ∧ Kept noneS w wr) (fun _ i _ => xs.length - (intOf i).toNat)
  case atStart => exact ⟨0, Nat.zero_le _, rfl, Own.empty _ _ _ _ (Nat.le_refl _), (Kept.refl _ _).alloc _⟩
  case round =>
    obtain ⟨j, hj, rfl, hob, hkept⟩ := hrel
    have HO := Lib.hid hob
    have HK := Lib.hid hkept
    clear hob hkept
    by_cases hlt : j < xs.length
    · obtain ⟨A0, cap, rfl, _⟩ := Own.form HO.out
      have hl : (xs.take j).length = j := by simp; omega
      have HT := Lib.hid (List.take_succ_eq_append_getElem hlt)
      obtain ⟨g, o, rfl, _, hc⟩ := (HX.out.still HK.out).at_ hlt
      have HC := Lib.hid hc
      generalize xs[j] = b at hc HT HC
      generalize xs.take j = cur at HO hl HT ⊢
      subst hl
      go_wp2_with (at_builtin; refine wpList_app1 rfl (.tmp 12) (.tmp 17) rfl (w.heap.size ≤ ·) (.slice A0 cur.length cap) cur rfl (Own.alloc HO.out _) wr.heap.size b rfl (by simp) (by omega) (by have := HK.out.size; simp; omega) ?_; intro A1 cap1 w1 hown hcap1 hk; have HO1 := Lib.hid hown; have HK1 := Lib.hid hk; clear hown hk)
      go_roundw
      case rel => exact ⟨cur.length + 1, by omega, by go_num, by rw [HT.out]; exact HO1.out, (HK.out.alloc _).trans2 HK1.out (fun i hi h => by have := HO.out.2 i h; omega)⟩
      case measure => simp [intOf]; omega
    · obtain rfl : j = xs.length := by omega
      have hl : (xs.take xs.length) = xs := List.take_length
      rw [hl] at HO
      obtain ⟨A0, cap, rfl, _⟩ := Own.form HO.out
      go_wp2
      go_ret
      exact ⟨A0, cap, rfl, HO.out, HK.out⟩

set_option maxHeartbeats 400000 in
theorem refVal (A : Option Addr) (c n : Nat) (bs : List UInt8) (F : Nat → Prop) (w : World) (hb : RB w F A bs) (hn : bs.length ≤ 8) (hl : bs.length = n) :
    Calls Try.prog 39 #[.slice A n c] w fun e w' => e = .returned (.int .i64 (IntKind.i64.wrap (beNat bs : Int))) ∧ w = w' := by
  subst hl
  have HB := Lib.hid hb
  clear hb
  go_enter Try.func39, Try.ntmps39
  go_wp2
  go_loop [3, 4] (fun v i => ∃ k : Nat, k ≤ bs.length ∧ i = .int .i64 k ∧ v = .int .u64 (beNat (bs.take k) : Nat)) (fun _ i => bs.length - (intOf i).toNat)
  case atStart => exact ⟨0, Nat.zero_le _, rfl, rfl⟩
  case round =>
    obtain ⟨k, hk, rfl, rfl⟩ := hrel
    by_cases hlt : k < bs.length
    · obtain ⟨g, o, rfl, _, hc⟩ := HB.out.at_ hlt
      have hx : beNat (bs.take k) < 72057594037927936 := beNat_lt_of (k := 7) (by simp; omega)
      have HS := Lib.hid (beNat_take bs k hlt)
      have hc8 := bs[k].toNat_lt
      generalize bs[k].toNat = c8 at hc hc8 HS
      generalize beNat (bs.take k) = X at hx HS ⊢
      go_wp2
      go_round
      case rel => exact ⟨k + 1, by omega, by go_num, by rw [HS.out]; go_num⟩
      case measure => simp [intOf]; omega
    · obtain rfl : k = bs.length := by omega
      go_wp2
      go_ret
      rw [← wrap64_eq]
      exact ⟨rfl, rfl⟩

end Go.Proofs.Ytkkfifocilnbkaa
