/-
  warrenlaw01's same, clone, speaks.
-/
import Derived.Test.YtepligggofbegaaOctW3
import Derived.Test.YtepligggofbegaaOctR3
namespace Go.Proofs.Ytepligggofbegaa
open Go.RowKit

set_option maxHeartbeats 400000 in
theorem same_any (A B : Option Addr) (c d n m : Nat) (xs ys : List UInt8) (F G : Nat → Prop) (w : World) (hx : RB w F A xs) (hy : RB w G B ys) (hl : xs.length = n) (hm : ys.length = m) :
    Calls Try.prog 10 #[.slice A n c, .slice B m d] w fun e w' => e = .returned (.bool (xs == ys)) ∧ w = w' := by
  subst hl hm
  have h1 := run_str w F A c xs hx
  have h2 := run_str w G B d ys hy
  clear hx hy
  go_enter Try.func10, Try.ntmps10
  go_wp2
  go_ret
  exact ⟨rfl, rfl⟩

set_option maxHeartbeats 400000 in
theorem clone_any (A : Option Addr) (c : Nat) (xs : List UInt8) (F : Nat → Prop) (w : World) (hx : RB w F A xs) (hn : xs.length ≤ 140737488355328) :
    Calls Try.prog 8 #[.slice A xs.length c] w fun e w' => ∃ A' c', e = .returned (.slice A' xs.length c') ∧ OB w' (w.heap.size ≤ ·) (.slice A' xs.length c') xs ∧ Kept noneS w w' := by
  have HX := Lib.hid hx
  clear hx
  go_enter Try.func8, Try.ntmps8
  go_wp2_with (at_builtin; refine wpList_appN rfl (.tmp 3) (.tmp 4) rfl (w.heap.size ≤ ·) F (.slice (some ⟨w.heap.size, 0, none⟩) 0 0) [] rfl (Own.empty _ _ _ _ (Nat.le_refl _)) A c xs rfl (HX.out.alloc _) (by simp; omega) (by simp) ?_; intro A1 cap1 w1 hown hcap1 hk; have HO1 := Lib.hid hown; have HK1 := Lib.hid hk; clear hown hk)
  go_ret
  refine ⟨A1, cap1, rfl, by simpa using HO1.out, ((Kept.refl noneS w).alloc _).trans2 HK1.out ?_⟩
  intro k h1 h2
  have h3 : w.heap.size = k := by simpa [ownS, Value.ownBlock] using h2
  exfalso
  omega

def ws1 : WS := (WS.mk [] 0).bit true
def ws2 : WS := ws1.bit false
def ws3 : WS := ws2.bit true
def ws4 : WS := ws3.num 1 7
def ws5 : WS := ws4.bit true
def ws6 : WS := ws5.short [104, 105]
theorem ws6_eq : ws6.bs = [5, 7, 1, 2, 104, 105] := by decide +kernel
def rs0 : RS := ⟨[5, 2, 104, 105], 0, 0, 0⟩
theorem rs_eq : rs0.bit.2 = true ∧ rs0.bit.1.bit.2 = false ∧ rs0.bit.1.bit.1.bit.2 = true ∧ (rs0.bit.1.bit.1.bit.1.text 1).2 = [104, 105] ∧ (rs0.bit.1.bit.1.bit.1.text 1).1.fin = 0 := by decide +kernel

set_option maxHeartbeats 1600000 in
theorem speaks_any (w : World) : Calls Try.prog 7 #[] w fun e w' => e = .returned (.bool true) ∧ Kept noneS w w' := by
  go_enter Try.func7, Try.ntmps7
  go_wp2_with fail
  refine (newWS w).mono ?_
  rintro e w1 ⟨rfl, h1, k1⟩
  have H1 := Lib.hid h1
  have K1 := Lib.hid (k1.mono (S' := (w.heap.size ≤ ·)) fun _ _ q => q.elim)
  have s1 := k1.size
  clear h1 k1
  generalize hp : w.heap.size = p at H1 s1 K1 ⊢
  have HP := Lib.hid hp
  clear hp
  go_wp2_with fail
  refine (wsBit true w1 (p ≤ ·) p ⟨[], 0⟩ H1.out (fun j h => Nat.le_trans s1 h) (by decide)).mono ?_
  rintro e w2 ⟨rfl, h2, k2⟩
  have H2 : Hid (WSAt w2 (p ≤ ·) p ws1) := Lib.hid h2
  have K2 := Lib.hid (K1.out.trans2 k2 (fun _ _ h => h))
  have s2 := Nat.le_trans s1 k2.size
  clear h2 k2 H1 K1
  go_wp2_with fail
  refine (wsBit false w2 (p ≤ ·) p ws1 H2.out (fun j h => Nat.le_trans s2 h) (by decide +kernel)).mono ?_
  rintro e w3 ⟨rfl, h3, k3⟩
  have H3 : Hid (WSAt w3 (p ≤ ·) p ws2) := Lib.hid h3
  have K3 := Lib.hid (K2.out.trans2 k3 (fun _ _ h => h))
  have s3 := Nat.le_trans s2 k3.size
  clear h3 k3 H2 K2
  go_wp2_with fail
  refine (wsBit true w3 (p ≤ ·) p ws2 H3.out (fun j h => Nat.le_trans s3 h) (by decide +kernel)).mono ?_
  rintro e w4 ⟨rfl, h4, k4⟩
  have H4 : Hid (WSAt w4 (p ≤ ·) p ws3) := Lib.hid h4
  have K4 := Lib.hid (K3.out.trans2 k4 (fun _ _ h => h))
  have s4 := Nat.le_trans s3 k4.size
  clear h4 k4 H3 K3
  go_wp2_with fail
  refine (wsOctet 7 w4 (p ≤ ·) p ws3 H4.out (fun j h => Nat.le_trans s4 h) (by decide +kernel) (by decide) (by decide)).mono ?_
  rintro e w5 ⟨rfl, h5, k5⟩
  have H5 : Hid (WSAt w5 (p ≤ ·) p ws4) := Lib.hid h5
  have K5 := Lib.hid (K4.out.trans2 k5 (fun _ _ h => h))
  have s5 := Nat.le_trans s4 k5.size
  clear h5 k5 H4 K4
  go_wp2_with fail
  refine (wsBit true w5 (p ≤ ·) p ws4 H5.out (fun j h => Nat.le_trans s5 h) (by decide +kernel)).mono ?_
  rintro e w6 ⟨rfl, h6, k6⟩
  have H6 : Hid (WSAt w6 (p ≤ ·) p ws5) := Lib.hid h6
  have K6 := Lib.hid (K5.out.trans2 k6 (fun _ _ h => h))
  have s6 := Nat.le_trans s5 k6.size
  clear h6 k6 H5 K5
  go_wp2_with fail
  refine (wsShortStr_ok ⟨#[104, 105]⟩ (by decide) w6 (p ≤ ·) p ws5 H6.out (fun j h => Nat.le_trans s6 h) (by decide +kernel)).mono ?_
  rintro e w7 ⟨rfl, h7, k7⟩
  have H7 : Hid (WSAt w7 (p ≤ ·) p ws6) := Lib.hid h7
  have K7 := Lib.hid (K6.out.trans2 k7 (fun _ _ h => h))
  have s7 := Nat.le_trans s6 k7.size
  clear h7 k7 H6 K6
  go_wp2_with fail
  refine (newRS (some ⟨w7.heap.size, 0, none⟩) 4 4 [5, 2, 104, 105] rfl (fun _ => True) _ (RB.lit _ _ _ _ _ _ rfl trivial) (fun q => by cases q) (by decide)).mono ?_
  rintro e w8 ⟨r, rfl, hr1, hr2, h8, k8⟩
  have hz : w7.heap.size + 1 ≤ r := by simpa using hr1
  have H8 : Hid (RSAt w8 (fun k => w7.heap.size + 1 ≤ k ∧ k < r) r rs0) := Lib.hid (by rw [World.size_alloc] at h8; exact h8)
  have W8 := Lib.hid ((H7.out.still ((Kept.refl noneS w7).alloc _)).still k8)
  have K8 := Lib.hid ((K7.out.alloc _).trans2 k8 (fun _ _ q => q.elim))
  have s8 := k8.size
  clear h8 k8 hr1 H7 K7
  go_wp2_with fail
  refine (wBytes w8 (p ≤ ·) p ws6.bs _ W8.out.1 (by rw [ws6_eq]; decide)).mono ?_
  rintro e w9 ⟨v, rfl, h9, k9⟩
  obtain ⟨A9, c9, rfl, _⟩ := Own.form h9
  have O9 := Lib.hid (OB.rb h9).2
  have H9 := Lib.hid (H8.out.still k9)
  have K9 := Lib.hid (K8.out.trans2 k9 (fun _ _ q => q.elim))
  clear h9 k9 H8 K8 W8
  rw [ws6_eq] at O9 ⊢
  go_wp2_with fail
  refine (same_any A9 (some ⟨w9.heap.size, 0, none⟩) c9 6 _ 6 [5, 7, 1, 2, 104, 105] [5, 7, 1, 2, 104, 105] _ (fun _ => True) (w9.alloc (.cells #[.int .u8 5, .int .u8 7, .int .u8 1, .int .u8 2, .int .u8 104, .int .u8 105] 5)) (O9.out.alloc _) (RB.lit _ _ _ _ _ _ rfl trivial) rfl rfl).mono ?_
  rintro e w10 ⟨rfl, rfl⟩
  have e2 : (([5, 7, 1, 2, 104, 105] : List UInt8) == [5, 7, 1, 2, 104, 105]) = true := by decide
  rw [e2]
  clear e2
  have H10 := Lib.hid (H9.out.still ((Kept.refl noneS w9).alloc (.cells #[.int .u8 5, .int .u8 7, .int .u8 1, .int .u8 2, .int .u8 104, .int .u8 105] 5)))
  have K10 := Lib.hid (K9.out.alloc (.cells #[.int .u8 5, .int .u8 7, .int .u8 1, .int .u8 2, .int .u8 104, .int .u8 105] 5))
  generalize w9.alloc (.cells #[.int .u8 5, .int .u8 7, .int .u8 1, .int .u8 2, .int .u8 104, .int .u8 105] 5) = w10 at H10 K10 ⊢
  have HR := Lib.hid rs_eq
  have hpr : p ≤ r := by omega
  go_wp2_with fail
  refine (rsBit w10 _ r rs0 H10.out).mono ?_
  rintro e w11 ⟨rfl, h11, k11⟩
  rw [HR.out.1]
  have H11 := Lib.hid h11
  have K11 := Lib.hid (K10.out.trans2 k11 (fun i _ h => by rw [h]; exact hpr))
  clear h11 k11
  go_wp2_with fail
  refine (rsBit w11 _ r _ H11.out).mono ?_
  rintro e w12 ⟨rfl, h12, k12⟩
  rw [HR.out.2.1]
  have H12 := Lib.hid h12
  have K12 := Lib.hid (K11.out.trans2 k12 (fun i _ h => by rw [h]; exact hpr))
  clear h12 k12
  go_wp2_with fail
  refine (rsBit w12 _ r _ H12.out).mono ?_
  rintro e w13 ⟨rfl, h13, k13⟩
  rw [HR.out.2.2.1]
  have H13 := Lib.hid h13
  have K13 := Lib.hid (K12.out.trans2 k13 (fun i _ h => by rw [h]; exact hpr))
  clear h13 k13
  go_wp2_with fail
  refine (rsShortStr w13 _ r _ H13.out).mono ?_
  rintro e w14 ⟨rfl, h14, k14⟩
  rw [HR.out.2.2.2.1]
  have H14 := Lib.hid h14
  have K14 := Lib.hid (K13.out.trans2 k14 (fun i _ h => by rw [h]; exact hpr))
  clear h14 k14
  go_wp2_with fail
  refine (rsEnd w14 _ r _ H14.out).mono ?_
  rintro e w15 ⟨rfl, rfl⟩
  rw [HR.out.2.2.2.2]
  go_wp2
  go_ret
  exact ⟨rfl, K14.out.mono (fun i h1 h2 => by have := HP.out; exact absurd h1 (by omega))⟩

end Go.Proofs.Ytepligggofbegaa
