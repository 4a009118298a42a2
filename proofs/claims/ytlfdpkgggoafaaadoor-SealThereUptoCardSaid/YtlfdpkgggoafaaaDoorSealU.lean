/-
  The contract of seal.Unwrap.
-/
import Derived.Test.YtlfdpkgggoafaaaDoorOver
import Derived.Test.YtlfdpkgggoafaaaDoorOctR
namespace Go.Proofs.YtlfdpkgggoafaaaDoor
open Go.RowKit

theorem newReader' (A : Option Addr) (c n : Nat) (xs : List UInt8) (F : Nat → Prop) (w : World) (hx : RB w F A xs) (hA : A = none → xs = [] ∧ c = 0) (hn : xs.length ≤ 140737488355328) (hl : xs.length = n) :
    Calls Tryd.prog 28 #[.slice A n c] w fun e w' => ∃ p, e = .returned (.pointer (some ⟨p, 0, none⟩)) ∧ w.heap.size ≤ p ∧ p < w'.heap.size ∧ RdrAt w' (fun k => w.heap.size ≤ k ∧ k < p) p xs 0 0 0 ∧ Kept noneS w w' := by
  subst hl
  exact newReader A c xs F w hx hA hn
theorem over' (s : Nat) (hs : s < 4294967296) (A : Option Addr) (c n : Nat) (bs : List UInt8) (F : Nat → Prop) (w : World) (hb : RB w F A bs) (hn : bs.length ≤ 9223372036854775807) (ht : Tab w) (hl : bs.length = n) :
    Calls Tryd.prog 21 #[.int .u32 (s : Int), .slice A n c] w fun e w' => e = .returned (.int .u32 (Crc.over s bs : Int)) ∧ w = w' := by
  subst hl
  exact over_any s hs A c bs F w hb hn ht

/-- The document's unwrapping: the data, how many octets it takes, the error. -/
def unwrapP (b : List UInt8) : List UInt8 × Nat × Nat :=
  if b.length < 8 then ([], 0, 3)
  else if 1048576 < beNat (b.take 4) then ([], 0, 1)
  else if b.length < 8 + beNat (b.take 4) then ([], 0, 3)
  else if Crc.sum (b.take 4 ++ (b.drop 8).take (beNat (b.take 4))) = beNat ((b.drop 4).take 4) then ((b.drop 8).take (beNat (b.take 4)), 8 + beNat (b.take 4), 0)
  else ([], 0, 9)

/-- What seal.Unwrap leaves. -/
def UnwrapPost (w : World) (r : List UInt8 × Nat × Nat) (e : Ending) (w' : World) : Prop :=
  ∃ A c, e = .returned (.tuple #[.slice A r.1.length c, .int .i64 (r.2.1 : Int), .int .i64 (r.2.2 : Int)]) ∧ OB w' (w.heap.size ≤ ·) (.slice A r.1.length c) r.1 ∧ Kept noneS w w'

set_option maxHeartbeats 400000 in
theorem unwrap_tiny (A : Option Addr) (c : Nat) (b : List UInt8) (w : World) (hb : b.length < 8) :
    Calls Tryd.prog 16 #[.slice A b.length c] w (UnwrapPost w (unwrapP b)) := by
  have HR : Hid (unwrapP b = ([], 0, 3)) := Lib.hid (by unfold unwrapP; rw [if_pos hb])
  go_enter Tryd.func16, Tryd.ntmps16
  go_wp2
  go_ret3
  rw [HR.out]
  exact ⟨none, 0, rfl, Own.nil _ _ _ _, Kept.refl _ _⟩

set_option maxHeartbeats 400000 in
theorem unwrap_more (A : Option Addr) (c : Nat) (b : List UInt8) (F : Nat → Prop) (w : World) (hr : RB w F A b) (hb : 8 ≤ b.length) (hc : b.length ≤ c) (hc2 : c ≤ 9223372036854775807) (ht : Tab w) :
    Calls Tryd.prog 16 #[.slice A b.length c] w (UnwrapPost w (unwrapP b)) := by
  have HR := Lib.hid (hr.mono (G := (· < w.heap.size)) fun _ h _ => h)
  have HT := Lib.hid ht
  obtain ⟨g, o, rfl, _⟩ := hr.at_ (show 0 < b.length by omega)
  clear hr ht
  have HE : Hid ((b.take 8).length = 8) := Lib.hid (by simp; omega)
  go_enter Tryd.func16, Tryd.ntmps16
  go_wp2_with fail
  refine (newReader' _ c 8 (b.take 8) _ w (HR.out.take 8) (fun q => by cases q) (by rw [HE.out]; decide) HE.out).mono ?_
  rintro e w1 ⟨p, rfl, hp1, hp2, h1, k1⟩
  have H1 := Lib.hid h1
  have K1 := Lib.hid k1
  clear h1 k1
  go_wp2_with fail
  refine (rLong_ok w1 _ p (b.take 8) 0 0 H1.out (by rw [HE.out]; decide)).mono ?_
  rintro e w2 ⟨rfl, h2, k2⟩
  have H2 := Lib.hid h2
  have K2 := Lib.hid (K1.out.trans2 (S := noneS) k2 (fun i hi h => absurd hi (by omega)))
  clear h2 k2
  have HQ : Hid ((b.take 8).take 4 = b.take 4) := Lib.hid (by rw [List.take_take]; rfl)
  rw [HQ.out]
  go_wp2_with fail
  refine (rLong_ok w2 _ p ((b.take 8).drop 4) 0 0 H2.out (by rw [List.length_drop, HE.out]; decide)).mono ?_
  rintro e w3 ⟨rfl, h3, k3⟩
  have K3 := Lib.hid (K2.out.trans2 (S := noneS) k3 (fun i hi h => absurd hi (by omega)))
  clear h3 k3 H2 H1
  have HQ2 : Hid (((b.take 8).drop 4).take 4 = (b.drop 4).take 4) := Lib.hid (by rw [List.drop_take, List.take_take]; rfl)
  rw [HQ2.out]
  have hnb : beNat (b.take 4) < 4294967296 := beNat_lt_of (k := 4) (by simp; omega)
  have hsb : beNat ((b.drop 4).take 4) < 4294967296 := beNat_lt_of (k := 4) (by simp; omega)
  generalize hN : beNat (b.take 4) = n at hnb
  generalize hS : beNat ((b.drop 4).take 4) = s at hsb
  have HN := Lib.hid hN
  have HS := Lib.hid hS
  clear hN hS
  by_cases h1 : 1048576 < n
  · have HP : Hid (unwrapP b = ([], 0, 1)) := Lib.hid (by unfold unwrapP; rw [if_neg (by omega), HN.out, if_pos h1])
    go_wp2
    go_ret3
    rw [HP.out]
    exact ⟨none, 0, rfl, Own.nil _ _ _ _, K3.out⟩
  · by_cases h2 : b.length < 8 + n
    · have HP : Hid (unwrapP b = ([], 0, 3)) := Lib.hid (by unfold unwrapP; rw [if_neg (by omega), HN.out, if_neg h1, if_pos h2])
      go_wp2
      go_ret3
      rw [HP.out]
      exact ⟨none, 0, rfl, Own.nil _ _ _ _, K3.out⟩
    · have DR : Hid (RB w3 (· < w.heap.size) (some ⟨g, o + 8, none⟩) ((b.drop 8).take n)) := Lib.hid (by
        have h := (HR.out.cut (k := 8) hc)
        by_cases hc8 : c = 8
        · have : b.drop 8 = [] := List.drop_eq_nil_of_le (by omega)
          rw [this]
          simpa using RB.nil _ _ _
        · rw [if_neg hc8] at h
          exact ((h.take n).still K3.out))
      have D4 : Hid (RB w3 (· < w.heap.size) (some ⟨g, o, none⟩) (b.take 4)) := Lib.hid ((HR.out.take 4).still K3.out)
      have HL4 : Hid ((b.take 4).length = 4) := Lib.hid (by simp; omega)
      have HLn : Hid (((b.drop 8).take n).length = n) := Lib.hid (by simp; omega)
      have HP : Hid (unwrapP b = if Crc.sum (b.take 4 ++ (b.drop 8).take n) = s then ((b.drop 8).take n, 8 + n, 0) else ([], 0, 9)) := Lib.hid (by
        unfold unwrapP; rw [if_neg (by omega), HN.out, if_neg h1, if_neg h2, HS.out])
      generalize b.take 4 = b4 at D4 HL4 HP
      generalize (b.drop 8).take n = dd at DR HLn HP
      have ho := Crc.over_lt b4 (s := 4294967295) (by decide)
      have hx : bits .xor .u32 (Crc.over 4294967295 (b4 ++ dd) : Int) 4294967295 = (Crc.sum (b4 ++ dd) : Int) := u32_xor_nat _ 4294967295 (Crc.over_lt _ (by decide)) (by decide)
      have hs2 : Crc.sum (b4 ++ dd) < 4294967296 := Crc.xor_lt (Crc.over_lt _ (by decide)) (by decide)
      have T3 := Lib.hid (HT.out.keep K3.out (fun q => q))
      have HOv := Lib.hid (Crc.over_append b4 dd 4294967295)
      by_cases hn0 : n = 0
      · subst hn0
        obtain rfl : dd = [] := List.length_eq_zero_iff.1 HLn.out
        rw [List.append_nil] at hx hs2 HP HOv
        go_wp2_with fail
        refine (over' 4294967295 (by decide) _ c 4 b4 _ w3 D4.out (by rw [HL4.out]; decide) T3.out HL4.out).mono ?_
        rintro e w4 ⟨rfl, rfl⟩
        go_wp2_with fail
        refine (over' (Crc.over 4294967295 b4) ho _ _ 0 [] noneS w3 (RB.nil _ _ _) (by decide) T3.out rfl).mono ?_
        rintro e w4 ⟨rfl, rfl⟩
        rw [← HOv.out]
        generalize Crc.sum b4 = S at hx hs2 HP
        by_cases hq : S = s
        · have hb1 : ((S : Int) != (s : Int)) = false := by simp [hq]
          rw [if_pos hq] at HP
          clear hq
          go_wp2_with (at_builtin; refine wpList_appN rfl (.const (.slice none 0 0)) (.tmp 44) rfl (w.heap.size ≤ ·) noneS (.slice none 0 0) [] rfl (Own.nil _ _ _ _) (some ⟨g, o, none⟩) 0 [] rfl (RB.nil _ _ _) (by decide) (by have := K3.out.size; omega) ?_; intro A5 cap5 w5 hown hcap1 hk; have HO5 := Lib.hid hown; have HK5 := Lib.hid hk; clear hown hk)
          go_ret3
          rw [HP.out]
          exact ⟨A5, cap5, rfl, HO5.out, K3.out.trans2 HK5.out (fun i hi h => by simp [ownS, Value.ownBlock] at h)⟩
        · have hb1 : ((S : Int) != (s : Int)) = true := by rw [bne_iff_ne]; omega
          rw [if_neg hq] at HP
          clear hq
          go_wp2
          go_ret3
          rw [HP.out]
          exact ⟨none, 0, rfl, Own.nil _ _ _ _, K3.out⟩
      · go_wp2_with fail
        refine (over' 4294967295 (by decide) _ c 4 b4 _ w3 D4.out (by rw [HL4.out]; decide) T3.out HL4.out).mono ?_
        rintro e w4 ⟨rfl, rfl⟩
        go_wp2_with fail
        refine (over' (Crc.over 4294967295 b4) ho _ _ n dd _ w3 DR.out (by rw [HLn.out]; omega) T3.out HLn.out).mono ?_
        rintro e w4 ⟨rfl, rfl⟩
        rw [← HOv.out]
        generalize Crc.sum (b4 ++ dd) = S at hx hs2 HP
        by_cases hq : S = s
        · have hb1 : ((S : Int) != (s : Int)) = false := by simp [hq]
          rw [if_pos hq] at HP
          clear hq
          go_wp2_with (at_builtin; refine wpList_appN rfl (.const (.slice none 0 0)) (.tmp 44) rfl (w.heap.size ≤ ·) _ (.slice none 0 0) [] rfl (Own.nil _ _ _ _) (some ⟨g, o + 8, none⟩) n dd (by rw [HLn.out]; rfl) DR.out (by simp [HLn.out]; omega) (by have := K3.out.size; omega) ?_; intro A5 cap5 w5 hown hcap1 hk; have HO5 := Lib.hid hown; have HK5 := Lib.hid hk; clear hown hk)
          go_ret3
          rw [HP.out]
          refine ⟨A5, cap5, ?_, by simpa using HO5.out, K3.out.trans2 HK5.out (fun i hi h => by simp [ownS, Value.ownBlock] at h)⟩
          rw [show ((8 + n : Nat) : Int) = 8 + (n : Int) by omega]
          rfl
        · have hb1 : ((S : Int) != (s : Int)) = true := by rw [bne_iff_ne]; omega
          rw [if_neg hq] at HP
          clear hq
          go_wp2
          go_ret3
          rw [HP.out]
          exact ⟨none, 0, rfl, Own.nil _ _ _ _, K3.out⟩

theorem unwrap_any (A : Option Addr) (c : Nat) (b : List UInt8) (F : Nat → Prop) (w : World) (hr : RB w F A b) (hc : b.length ≤ c) (hc2 : c ≤ 9223372036854775807) (ht : Tab w) :
    Calls Tryd.prog 16 #[.slice A b.length c] w (UnwrapPost w (unwrapP b)) := by
  by_cases h : b.length < 8
  · exact unwrap_tiny A c b w h
  · exact unwrap_more A c b F w hr (by omega) hc hc2 ht

end Go.Proofs.YtlfdpkgggoafaaaDoor
