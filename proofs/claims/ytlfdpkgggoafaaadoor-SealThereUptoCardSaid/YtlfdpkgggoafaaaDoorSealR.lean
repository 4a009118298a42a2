/-
  Contracts of warrenref02.Sum, warrenlaw02.same, clone, speaks.
-/
import Derived.Test.YtlfdpkgggoafaaaDoorSealW
import Derived.Lib.SlBytesConst
namespace Go.Proofs.YtlfdpkgggoafaaaDoor
open Go.RowKit

set_option maxHeartbeats 400000 in
theorem refSum0 (A : Option Addr) (c : Nat) (bs : List UInt8) (F : Nat → Prop) (w : World) (hb : RB w F A bs) (hn : bs.length ≤ 9223372036854775807) :
    Calls Tryd.prog 12 #[.slice A bs.length c] w fun e w' => e = .returned (.int .u32 (4294967295 - (Crc.overR 4294967295 bs : Int))) ∧ w = w' := by
  have HB := Lib.hid hb
  clear hb
  go_enter Tryd.func12, Tryd.ntmps12
  go_wp2
  go_loop [3, 4, 5, 6] (fun t i _ _ => ∃ k : Nat, k ≤ bs.length ∧ i = .int .i64 k ∧ t = .int .u32 (Crc.overR 4294967295 (bs.take k) : Nat)) (fun _ i _ _ => bs.length - (intOf i).toNat)
  case atStart => exact ⟨0, Nat.zero_le _, rfl, rfl⟩
  case round =>
    obtain ⟨k, hk, rfl, rfl⟩ := hrel
    by_cases hlt : k < bs.length
    · obtain ⟨g, o, rfl, _, hc⟩ := HB.out.at_ hlt
      have hs1 := Crc.overR_lt (bs.take k) (s := 4294967295) (by decide)
      have HS := Lib.hid (Crc.overR_take bs k hlt 4294967295)
      generalize Crc.overR 4294967295 (bs.take k) = S at hs1 HS ⊢
      have hc8 := bs[k].toNat_lt
      generalize bs[k].toNat = c8 at hc8 hc HS ⊢
      have b1 := xor_u32 S c8 hs1 hc8
      have l1 : S ^^^ c8 < 4294967296 := Crc.xor_lt hs1 (by omega)
      have e1 : Hid (Crc.oneR S c8 = Crc.bits 8 (S ^^^ c8)) := Lib.hid rfl
      generalize S ^^^ c8 = X at b1 l1 e1
      go_wp2
      go_loop [3, 5, 6] (fun t i _ => ∃ j : Nat, j ≤ 8 ∧ i = .int .i64 j ∧ t = .int .u32 (Crc.bits j X : Nat)) (fun _ i _ => 8 - (intOf i).toNat)
      case atStart => exact ⟨0, Nat.zero_le _, rfl, rfl⟩
      case round =>
        obtain ⟨j, hj, rfl, rfl⟩ := hrel
        by_cases hj8 : j < 8
        · have l2 := Crc.bits_lt l1 j
          have HBt : Hid (Crc.bits (j + 1) X = Crc.bit (Crc.bits j X)) := Lib.hid rfl
          generalize Crc.bits j X = Y at l2 HBt ⊢
          by_cases hp : Y % 2 = 1
          · have HY : Hid (Crc.bit Y = (Y / 2) ^^^ 2197175160) := Lib.hid (by simp [Crc.bit, hp])
            have hp1 : (((Y : Int) % 2) == 1) = true := by rw [beq_iff_eq]; omega
            have hx : bits .xor .u32 ((Y : Int) / 2) 2197175160 = (((Y / 2) ^^^ 2197175160 : Nat) : Int) := by
              rw [show (Y : Int) / 2 = ((Y / 2 : Nat) : Int) by omega]
              exact u32_xor_nat (Y / 2) 2197175160 (by omega) (by decide)
            generalize (Y / 2) ^^^ 2197175160 = Z at HY hx
            clear hp
            go_wp2
            go_round
            case rel => exact ⟨j + 1, by omega, by go_num, by rw [HBt.out, HY.out]⟩
            case measure => simp [intOf]; omega
          · have HY : Hid (Crc.bit Y = Y / 2) := Lib.hid (by simp [Crc.bit, hp])
            have hp1 : (((Y : Int) % 2) == 1) = false := by rw [beq_eq_false_iff_ne]; omega
            clear hp
            go_wp2
            go_round
            case rel => exact ⟨j + 1, by omega, by go_num, by rw [HBt.out, HY.out]; go_num⟩
            case measure => simp [intOf]; omega
        · obtain rfl : j = 8 := by omega
          go_wp2
          go_round
          case rel => exact ⟨k + 1, by omega, by go_num, by rw [HS.out, e1.out]⟩
          case measure => simp [intOf]; omega
    · obtain rfl : k = bs.length := by omega
      have hs1 := Crc.overR_lt bs (s := 4294967295) (by decide)
      go_wp2
      go_ret
      exact ⟨rfl, rfl⟩

theorem refSum (A : Option Addr) (c : Nat) (bs : List UInt8) (F : Nat → Prop) (w : World) (hb : RB w F A bs) (hn : bs.length ≤ 9223372036854775807) :
    Calls Tryd.prog 12 #[.slice A bs.length c] w fun e w' => e = .returned (.int .u32 (Crc.sum bs : Int)) ∧ w = w' := by
  rw [Crc.sum_eq]
  exact refSum0 A c bs F w hb hn

set_option maxHeartbeats 400000 in
theorem same_any (A B : Option Addr) (c d : Nat) (xs ys : List UInt8) (F G : Nat → Prop) (w : World) (hx : RB w F A xs) (hy : RB w G B ys) :
    Calls Tryd.prog 13 #[.slice A xs.length c, .slice B ys.length d] w fun e w' => e = .returned (.bool (xs == ys)) ∧ w = w' := by
  have h1 := run_str w F A c xs hx
  have h2 := run_str w G B d ys hy
  clear hx hy
  go_enter Tryd.func13, Tryd.ntmps13
  go_wp2
  go_ret
  exact ⟨rfl, rfl⟩

set_option maxHeartbeats 400000 in
theorem clone_any (A : Option Addr) (c : Nat) (xs : List UInt8) (F : Nat → Prop) (w : World) (hx : RB w F A xs) (hn : xs.length ≤ 140737488355328) :
    Calls Tryd.prog 10 #[.slice A xs.length c] w fun e w' => ∃ A' c', e = .returned (.slice A' xs.length c') ∧ OB w' (w.heap.size ≤ ·) (.slice A' xs.length c') xs ∧ Kept noneS w w' := by
  have HX := Lib.hid hx
  clear hx
  go_enter Tryd.func10, Tryd.ntmps10
  go_wp2_with (at_builtin; refine wpList_appN rfl (.tmp 3) (.tmp 4) rfl (w.heap.size ≤ ·) F (.slice (some ⟨w.heap.size, 0, none⟩) 0 0) [] rfl (Own.empty _ _ _ _ (Nat.le_refl _)) A c xs rfl (HX.out.alloc _) (by simp; omega) (by simp) ?_; intro A1 cap1 w1 hown hcap1 hk; have HO1 := Lib.hid hown; have HK1 := Lib.hid hk; clear hown hk)
  go_ret
  refine ⟨A1, cap1, rfl, by simpa using HO1.out, ((Kept.refl noneS w).alloc _).trans2 HK1.out ?_⟩
  intro k h1 h2
  have h3 : w.heap.size = k := by simpa [ownS, Value.ownBlock] using h2
  exfalso
  omega

set_option maxHeartbeats 400000 in
theorem speaks_any (w : World) (ht : Tab w) : Calls Tryd.prog 9 #[] w fun e w' => e = .returned (.bool true) ∧ Kept noneS w w' := by
  have HT := Lib.hid ht
  clear ht
  have kc := fun (w : World) (C : Array Value) (n c : Nat) => Lib.run_convert_bytes_const (P := Tryd.prog) w 22 5 C n c Tryd.underlying22 Tryd.underlying5
  go_enter Tryd.func9, Tryd.ntmps9
  go_wp2_with fail
  refine (wrap_ok none 0 [] noneS w (RB.nil _ _ _) (by decide) HT.out).mono ?_
  rintro e w1 ⟨v, rfl, h1, k1⟩
  have H1 := Lib.hid h1
  have K1 := Lib.hid k1
  clear h1 k1
  obtain ⟨A1, c1, rfl, _⟩ := Own.form H1.out
  go_wp2_with fail
  refine (sum_any (some ⟨w1.heap.size, 0, none⟩) 9 [49, 50, 51, 52, 53, 54, 55, 56, 57] (fun _ => True) _ (RB.lit _ _ _ _ _ _ rfl trivial) (by decide) ((HT.out.keep K1.out (fun q => q)).keep ((Kept.refl noneS w1).alloc _) (fun q => q))).mono ?_
  rintro e w2 ⟨rfl, rfl⟩
  have e1 : Crc.sum [49, 50, 51, 52, 53, 54, 55, 56, 57] = 3808858755 := by decide +kernel
  rw [e1]
  go_wp2_with fail
  have R1 := Lib.hid (Own.rd H1.out)
  clear kc
  refine (same_any A1 (some ⟨w1.heap.size + 1, 0, none⟩) c1 8 (sealRec []) [0, 0, 0, 0, 72, 103, 75, 199] (w.heap.size ≤ ·) (fun _ => True) _ ((RB.alloc R1.out _).alloc _) (by
    have h := RB.lit (w1.alloc (.cells #[.int .u8 49, .int .u8 50, .int .u8 51, .int .u8 52, .int .u8 53, .int .u8 54, .int .u8 55, .int .u8 56, .int .u8 57] 5 (9, 10))) (fun _ => True) 5 (0, 0) _ [0, 0, 0, 0, 72, 103, 75, 199] rfl trivial
    simpa using h)).mono ?_
  rintro e w2 ⟨rfl, rfl⟩
  have e2 : (sealRec [] == [0, 0, 0, 0, 72, 103, 75, 199]) = true := by decide +kernel
  rw [e2]
  go_wp2
  go_ret
  exact ⟨rfl, (K1.out.alloc _).alloc _⟩

end Go.Proofs.YtlfdpkgggoafaaaDoor
