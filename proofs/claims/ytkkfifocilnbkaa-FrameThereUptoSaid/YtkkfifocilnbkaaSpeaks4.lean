/-
  speaks of warrenlaw04, and the walk of FrameNames.
-/
import Derived.Test.YtkkfifocilnbkaaNext
import Derived.Test.YtkkfifocilnbkaaSplit
namespace Go.Proofs.Ytkkfifocilnbkaa
open Go.RowKit

def hb8 : List UInt8 := [8, 0, 0, 0, 0, 0, 0, 206]
theorem pack8 : packOut 8 0 [] = hb8 := by rfl
theorem packe8 : packErr 8 0 = 0 := by rfl
theorem next7 : nextOf [8, 0, 0, 0, 0, 0, 0] 4096 = ⟨0, 0, [], false, 0, [8, 0, 0, 0, 0, 0, 0]⟩ := by kernel_rfl
theorem next8 : nextOf ([8, 0, 0, 0, 0, 0, 0] ++ [206]) 4096 = ⟨8, 0, [], true, 0, []⟩ := by kernel_rfl

set_option maxHeartbeats 2000000 in
theorem speaks4 (w : World) : Calls Try.prog 7 #[] w fun e w' => e = .returned (.bool true) ∧ Kept noneS w w' := by
  go_enter Try.func7, Try.ntmps7
  go_wp2_with fail
  refine (framePack 8 0 none 0 0 [] rfl noneS w (RB.nil _ _ _) (by simp) (by decide) (by decide)).mono ?_
  rintro e w1 ⟨A1, c1, rfl, o1, k1⟩
  rw [packe8]
  rw [pack8] at o1 ⊢
  obtain ⟨_, rb1⟩ := OB.rb o1
  have hcap1 : 8 ≤ c1 := by obtain ⟨A, c, e, h, _⟩ := Own.form o1; injection e with _ _ e; rw [e]; exact h
  obtain ⟨g1, q1, rfl, _, _⟩ := RB.at_ rb1 (k := 0) (by decide)
  have RB1 := Lib.hid (rb1.mono (G := (· < w1.heap.size)) (fun k a _ => a))
  have K1 := Lib.hid k1
  have zw := k1.size
  clear o1 rb1 k1
  rw [show hb8.length = 8 from rfl]
  go_wp2_with fail
  refine (newParser 4096 w1).mono ?_
  rintro e w2 ⟨rfl, p2, z2, k2⟩
  have P2 := Lib.hid p2
  have RB2 := Lib.hid (RB1.out.still k2)
  have K2 := Lib.hid (K1.out.trans k2)
  clear p2 k2
  go_wp2_with fail
  have rl : RB (w2.alloc (.cells #[.int .u8 8, .int .u8 0, .int .u8 0, .int .u8 0, .int .u8 0, .int .u8 0, .int .u8 0, .int .u8 206] 5)) (fun _ => True) (some ⟨w2.heap.size, 0, none⟩) hb8 := RB.lit w2 _ _ _ #[.int .u8 8, .int .u8 0, .int .u8 0, .int .u8 0, .int .u8 0, .int .u8 0, .int .u8 0, .int .u8 206] hb8 rfl trivial
  have k3 : Kept noneS w2 (w2.alloc (.cells #[.int .u8 8, .int .u8 0, .int .u8 0, .int .u8 0, .int .u8 0, .int .u8 0, .int .u8 0, .int .u8 206] 5)) := (Kept.refl noneS w2).alloc _
  generalize (w2.alloc (.cells #[.int .u8 8, .int .u8 0, .int .u8 0, .int .u8 0, .int .u8 0, .int .u8 0, .int .u8 0, .int .u8 206] 5)) = w3 at rl k3 ⊢
  refine (same_any _ _ c1 8 8 8 hb8 hb8 _ _ w3 (RB2.out.still k3) rl rfl rfl).mono ?_
  rintro e w' ⟨rfl, rfl⟩
  rw [show (hb8 == hb8) = true from rfl]
  clear rl
  have P3 := Lib.hid (P2.out.keep k3 (fun _ _ _ q => q.elim))
  have RB3 := Lib.hid (RB2.out.still k3)
  have K3 := Lib.hid (K2.out.trans k3)
  have z3 := Nat.lt_of_lt_of_le z2 k3.size
  clear k3 P2 RB2 RB1 K1 K2
  generalize hp0 : w1.heap.size = p0 at *
  go_wp2_with fail
  refine (frameHeader w3).mono ?_
  rintro e w4 ⟨rfl, rb4, z4, k4⟩
  have RBh := Lib.hid rb4
  have P4 := Lib.hid (P3.out.keep k4 (fun _ _ _ q => q.elim))
  have RB4 := Lib.hid (RB3.out.still k4)
  have K4 := Lib.hid (K3.out.trans k4)
  clear rb4 k4 P3 RB3 K3
  generalize w3.heap.size = h3 at *
  go_wp2_with fail
  refine (refHello w4).mono ?_
  rintro e w5 ⟨rfl, rb5, z5, k5⟩
  have RBi := Lib.hid rb5
  have RBh5 := Lib.hid (RBh.out.still k5)
  have P5 := Lib.hid (P4.out.keep k5 (fun _ _ _ q => q.elim))
  have RB5 := Lib.hid (RB4.out.still k5)
  have K5 := Lib.hid (K4.out.trans k5)
  clear rb5 k5 P4 RB4 K4 RBh
  have zz5 : p0 ≤ w5.heap.size := by omega
  generalize w4.heap.size = h4 at *
  go_wp2_with fail
  refine (same_any _ _ 8 8 8 8 helloBs helloBs _ _ w5 RBh5.out RBi.out rfl rfl).mono ?_
  rintro e w' ⟨rfl, rfl⟩
  rw [show (helloBs == helloBs) = true from rfl]
  clear RBh5 RBi
  go_wp2_with fail
  refine (parserFeed 4096 w5 (p0 ≤ ·) (· < p0) p0 [] (hb8.take 7) P5.out (some ⟨g1, q1, none⟩) 7 c1 rfl (RB5.out.take 7) (by decide) zz5).mono ?_
  rintro e w6 ⟨⟨v6, rfl⟩, p6, k6⟩
  have P6 : Hid (PAt w6 (p0 ≤ ·) p0 [8, 0, 0, 0, 0, 0, 0] 4096) := Lib.hid p6
  have RB6 := Lib.hid (RB5.out.keep k6 (fun k _ a b => by omega))
  have K6 := Lib.hid (K5.out.trans2 k6 (fun k a b => by omega))
  have zz6 := Nat.le_trans zz5 k6.size
  clear p6 k6 P5 RB5 K5
  go_wp2_with fail
  refine (nextKnown 4096 (by decide) (by decide) w6 (p0 ≤ ·) p0 _ P6.out (by decide) (by decide) (by rfl)).mono ?_
  rw [next7]
  rintro e w7 ⟨A7, c7, rfl, o7, p7, k7⟩
  have P7 : Hid (PAt w7 (p0 ≤ ·) p0 [8, 0, 0, 0, 0, 0, 0] 4096) := Lib.hid p7
  have RB7 := Lib.hid (RB6.out.keep k7 (fun k _ a b => by omega))
  have K7 := Lib.hid (K6.out.trans2 k7 (fun k a b => by omega))
  have zz7 := Nat.le_trans zz6 k7.size
  clear p7 k7 P6 RB6 K6 o7
  have hc17 : ¬ (c1 = 7) := by omega
  dsimp only [List.length_nil]
  go_wp2_with fail
  have k8 : Kept noneS w7 (w7.alloc (.cells #[.int .i64 0, .int .i64 0, .slice A7 0 c7] 25)) := (Kept.refl noneS w7).alloc _
  generalize (w7.alloc (.cells #[.int .i64 0, .int .i64 0, .slice A7 0 c7] 25)) = w8 at k8 ⊢
  have P8 := Lib.hid (P7.out.keep k8 (fun _ _ _ q => q.elim))
  have RB8 := Lib.hid (RB7.out.still k8)
  have K8 := Lib.hid (K7.out.trans k8)
  have zz8 := Nat.le_trans zz7 k8.size
  clear k8 P7 RB7 K7
  have rbd : RB w8 (· < p0) (some ⟨g1, q1 + 7, none⟩) [206] := by
    have h := RB.cut RB8.out (k := 7) (cap := c1) (by show 8 ≤ c1; exact hcap1)
    rw [if_neg hc17, Option.map_some, Addr.add_lit] at h
    exact h
  refine (parserFeed 4096 w8 (p0 ≤ ·) (· < p0) p0 [8, 0, 0, 0, 0, 0, 0] [206] P8.out (some ⟨g1, q1 + 7, none⟩) 1 (c1 - 7) rfl rbd (by decide) zz8).mono ?_
  rintro e w9 ⟨⟨v9, rfl⟩, p9, k9⟩
  have P9 := Lib.hid p9
  have RB9 := Lib.hid (RB8.out.keep k9 (fun k _ a b => by omega))
  have K9 := Lib.hid (K8.out.trans2 k9 (fun k a b => by omega))
  have zz9 := Nat.le_trans zz8 k9.size
  clear p9 k9 P8 RB8 K8 rbd
  generalize w7.heap.size = h7 at *
  go_wp2_with fail
  refine (nextKnown 4096 (by decide) (by decide) w9 (p0 ≤ ·) p0 _ P9.out (by decide) (by decide) (by rfl)).mono ?_
  rw [next8]
  rintro e wA ⟨A10, c10, rfl, o10, p10, k10⟩
  have P10 : Hid (PAt wA (p0 ≤ ·) p0 [] 4096) := Lib.hid p10
  have RB10 := Lib.hid (RB9.out.keep k10 (fun k _ a b => by omega))
  have K10 := Lib.hid (K9.out.trans2 k10 (fun k a b => by omega))
  clear p10 k10 P9 RB9 K9 o10
  dsimp only [List.length_nil]
  go_wp2_with fail
  have kB : Kept noneS wA (wA.alloc (.cells #[.int .i64 8, .int .i64 0, .slice A10 0 c10] 25)) := (Kept.refl noneS wA).alloc _
  generalize (wA.alloc (.cells #[.int .i64 8, .int .i64 0, .slice A10 0 c10] 25)) = wB at kB ⊢
  have PB := Lib.hid (P10.out.keep kB (fun _ _ _ q => q.elim))
  have RBB := Lib.hid (RB10.out.still kB)
  have KB := Lib.hid (K10.out.trans kB)
  have zzB := kB.size
  clear kB P10 RB10 K10
  refine (parserLeft 4096 wB (p0 ≤ ·) p0 [] PB.out).mono ?_
  rintro e w' ⟨rfl, rfl⟩
  generalize wA.heap.size = hA at *
  rw [show (([] : List UInt8).length : Int) = 0 from rfl]
  go_wp2_with fail
  refine (splitFn 1 10 g1 q1 c1 8 2 4 hb8 rfl hcap1 wB (RBB.out.mono (fun k a _ => a)) (by decide) (fun k => by omega) (by decide) (by decide) (by decide) (.inr ⟨by decide, by decide⟩)).mono ?_
  rintro e wC ⟨A12, c12, qs, rfl, _, _, k12⟩
  have K12 := Lib.hid (KB.out.trans k12)
  clear k12
  go_wp2
  go_ret
  exact ⟨rfl, K12.out⟩

theorem frameNames_walk (w : World) : Calls Try.prog 3 #[] w fun e w' => e = .returned (.bool true) ∧ Kept noneS w w' := by
  go_enter Try.func3, Try.ntmps3
  go_wp2_with fail
  refine (speaks4 w).mono ?_
  rintro e w1 ⟨rfl, k1⟩
  have K1 := Lib.hid k1
  clear k1
  go_wp2
  go_ret
  exact ⟨rfl, K1.out⟩

end Go.Proofs.Ytkkfifocilnbkaa
