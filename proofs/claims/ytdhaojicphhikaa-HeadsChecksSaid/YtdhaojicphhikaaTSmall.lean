/-
  Small functions of warrenref03 and ftable: Width, signed, width, fits, room, and checkValue's closure.
-/
import Derived.Test.YtdhaojicphhikaaRows
import Derived.Test.YtdhaojicphhikaaMem
import Derived.Test.YtdhaojicphhikaaTErrP
namespace Go.Proofs.Ytdhaojicphhikaa
open Go.RowKit

def widthP (k : Int) : Int := if k = 116 ∨ k = 98 then 1 else if k = 115 then 2 else if k = 73 then 4 else if k = 108 ∨ k = 100 ∨ k = 84 then 8 else if k = 68 ∨ k = 83 ∨ k = 86 ∨ k = 120 ∨ k = 65 ∨ k = 70 then 0 else -1
def widthF (k : Int) : Int := if k = 116 ∨ k = 98 then 1 else if k = 115 then 2 else if k = 73 then 4 else if k = 108 ∨ k = 100 ∨ k = 84 then 8 else 0
def sgnP (w n : Int) : Int := if w = 1 then (n + 128) % 256 - 128 else if w = 2 then (n + 32768) % 65536 - 32768 else if w = 4 then (n + 2147483648) % 4294967296 - 2147483648 else n

theorem wr8 (n : Int) : wrap64 (IntKind.i8.wrap n) = (n + 128) % 256 - 128 := by simp [IntKind.wrap, IntKind.bits, IntKind.signed, wrap64]; omega
theorem wr16 (n : Int) : wrap64 (IntKind.i16.wrap n) = (n + 32768) % 65536 - 32768 := by simp [IntKind.wrap, IntKind.bits, IntKind.signed, wrap64]; omega
theorem wr32 (n : Int) : wrap64 (IntKind.i32.wrap n) = (n + 2147483648) % 4294967296 - 2147483648 := by simp [IntKind.wrap, IntKind.bits, IntKind.signed, wrap64]; omega
theorem wr32' (n : Int) : wrap64 (wrap32 n) = (n + 2147483648) % 4294967296 - 2147483648 := by unfold wrap64 wrap32; omega

theorem ret64 {a b : Int} (h : a = b) : Ending.returned (.int .i64 a) = .returned (.int .i64 b) := by rw [h]
theorem retB {a b : Bool} (h : a = b) : Ending.returned (.bool a) = .returned (.bool b) := by rw [h]

/-- No kind at all. -/
def noKind (k : Int) : Prop := k ≠ 116 ∧ k ≠ 98 ∧ k ≠ 115 ∧ k ≠ 73 ∧ k ≠ 108 ∧ k ≠ 100 ∧ k ≠ 84 ∧ k ≠ 68 ∧ k ≠ 83 ∧ k ≠ 120 ∧ k ≠ 86 ∧ k ≠ 65 ∧ k ≠ 70

theorem kinds (k : Int) (h : ¬ noKind k) : k = 116 ∨ k = 98 ∨ k = 115 ∨ k = 73 ∨ k = 108 ∨ k = 100 ∨ k = 84 ∨ k = 68 ∨ k = 83 ∨ k = 120 ∨ k = 86 ∨ k = 65 ∨ k = 70 := by
  unfold noKind at h
  omega

theorem noKind.eqs {k : Int} (h : noKind k) : ((k == 116) = false ∧ (k == 98) = false ∧ (k == 115) = false ∧ (k == 73) = false ∧ (k == 108) = false ∧ (k == 100) = false ∧ (k == 84) = false) ∧ (k == 68) = false ∧ (k == 83) = false ∧ (k == 120) = false ∧ (k == 86) = false ∧ (k == 65) = false ∧ (k == 70) = false := by
  unfold noKind at h
  simpa [and_assoc] using h

set_option maxHeartbeats 800000 in
theorem refWidth (k : Int) (w : World) : Calls Try.prog 34 #[.int .i64 k] w fun e w' => e = .returned (.int .i64 (widthP k)) ∧ w = w' := by
  by_cases hk : noKind k
  · have hw : widthP k = -1 := by
      unfold noKind at hk
      unfold widthP
      rw [if_neg (by omega), if_neg (by omega), if_neg (by omega), if_neg (by omega), if_neg (by omega)]
    rw [hw]
    obtain ⟨⟨_, _, _, _, _, _, _⟩, _, _, _, _, _, _⟩ := hk.eqs
    clear hk hw
    go_enter Try.func34, Try.ntmps34
    go_wp2
    go_ret
    exact ⟨rfl,  rfl⟩
  · rcases  kinds k hk with rfl | rfl | rfl | rfl | rfl | rfl | rfl | rfl | rfl | rfl | rfl | rfl | rfl
    all_goals
      clear hk
      go_enter Try.func34, Try.ntmps34
      go_wp2
      go_ret
      exact ⟨rfl, rfl⟩

set_option maxHeartbeats 800000 in
theorem ftWidth (k : Int) (w : World) : Calls Try.prog 37 #[.int .i64 k] w fun e w' => e = .returned (.int .i64 (widthF k)) ∧ w = w' := by
  by_cases hk : noKind k
  · have hw : widthF k = 0 := by
      unfold noKind at hk
      unfold widthF
      rw [if_neg (by omega), if_neg (by omega), if_neg (by omega), if_neg (by omega)]
    rw [hw]
    obtain ⟨⟨_, _, _, _, _, _, _⟩, _, _, _, _, _, _⟩ := hk.eqs
    clear hk hw
    go_enter Try.func37, Try.ntmps37
    go_wp2
    go_ret
    exact ⟨rfl,  rfl⟩
  · rcases  kinds k hk with rfl | rfl | rfl | rfl | rfl | rfl | rfl | rfl | rfl | rfl | rfl | rfl | rfl
    all_goals
      clear hk
      go_enter Try.func37, Try.ntmps37
      go_wp2
      go_ret
      exact ⟨rfl, rfl⟩

set_option maxHeartbeats 800000 in
theorem refSigned (o n : Int) (w : World) (ho : o = 1 ∨ o = 2 ∨ o = 4 ∨ o = 8) : Calls Try.prog 35 #[.int .i64 o, .int .i64 n] w fun e w' => e = .returned (.int .i64 (sgnP o n)) ∧ w = w' := by
  rcases ho with rfl | rfl | rfl | rfl
  all_goals
    go_enter Try.func35, Try.ntmps35
    go_wp2
    go_ret
    exact ⟨ret64 (by first | exact wr8 n | exact wr16 n | exact wr32 n | exact wr32' n | rfl), rfl⟩

theorem sgn_fit (k n : Int) (hk : k = 98 ∨ k = 115 ∨ k = 73 ∨ k = 108 ∨ k = 100 ∨ k = 84) (h1 : -9223372036854775808 ≤ n) (h2 : n ≤ 9223372036854775807) : (sgnP (widthP k) n != n) = !fitB k n := by
  rcases hk with rfl | rfl | rfl | rfl | rfl | rfl
  all_goals
    simp only [widthP, sgnP, fitB]
    rw [Bool.eq_iff_iff]
    simp
    try omega

theorem room (n : Nat) (d : Int) (w : World) : Calls Try.prog 25 #[.int .i64 (n : Int), .int .i64 d] w fun e w' => e = .returned (.int .i64 (if 4 < d then 8 else if 64 < n then 33 else 0)) ∧ w = w' := by
  by_cases h : 4 < d
  · rw [if_pos h]
    go_enter Try.func25, Try.ntmps25
    go_wp2
    go_ret
    exact ⟨rfl, rfl⟩
  · rw [if_neg h]
    by_cases h2 : 64 < n
    · rw [if_pos h2]
      have : 64 < (n : Int) := by omega
      go_enter Try.func25, Try.ntmps25
      go_wp2
      go_ret
      exact ⟨rfl, rfl⟩
    · rw [if_neg h2]
      have : ¬ 64 < (n : Int) := by omega
      go_enter Try.func25, Try.ntmps25
      go_wp2
      go_ret
      exact ⟨rfl, rfl⟩

theorem shl56 (n : Int) : (wrap64 (n * 72057594037927936) / 72057594037927936 == n) = fitB 98 n := by
  unfold wrap64 fitB
  rw [Bool.eq_iff_iff]
  simp
  omega
theorem shl48 (n : Int) : (wrap64 (n * 281474976710656) / 281474976710656 == n) = fitB 115 n := by
  unfold wrap64 fitB
  rw [Bool.eq_iff_iff]
  simp
  omega
theorem shl32 (n : Int) : (wrap64 (n * 4294967296) / 4294967296 == n) = fitB 73 n := by
  unfold wrap64 fitB
  rw [Bool.eq_iff_iff]
  simp
  omega
theorem fit68 (n : Int) : (n == wrap64 (wrap32 n)) = fitB 68 n := by
  unfold wrap64 wrap32 fitB
  rw [Bool.eq_iff_iff]
  simp
  omega

set_option maxHeartbeats 1600000 in
theorem ftFits (k n : Int) (w : World) (hk : numK k = true ∨ k = 68) (_h1 : -9223372036854775808 ≤ n) (_h2 : n ≤ 9223372036854775807) : Calls Try.prog 32 #[.int .i64 k, .int .i64 n] w fun e w' => e = .returned (.bool (fitB k n)) ∧ w = w' := by
  have hk' : k = 116 ∨ k = 98 ∨ k = 115 ∨ k = 73 ∨ k = 108 ∨ k = 100 ∨ k = 84 ∨ k = 68 := by
    rcases hk with hk | hk
    · unfold numK at hk
      have := of_decide_eq_true hk
      omega
    · omega
  clear hk
  rcases hk' with rfl | rfl | rfl | rfl | rfl | rfl | rfl | rfl
  · rcases q : (n == 0) with _ | _
    all_goals
      go_enter Try.func32, Try.ntmps32
      go_wp2
      go_ret
      exact ⟨retB (by simp [fitB, q]), rfl⟩
  · go_enter Try.func32, Try.ntmps32
    go_wp2_with (go_at_call 37; refine (ftWidth 98 _).mono ?_; rw [show widthF 98 = 1 from rfl]; rintro e w' ⟨rfl, rfl⟩)
    go_ret
    exact ⟨retB (shl56 n), rfl⟩
  · go_enter Try.func32, Try.ntmps32
    go_wp2_with (go_at_call 37; refine (ftWidth 115 _).mono ?_; rw [show widthF 115 = 2 from rfl]; rintro e w' ⟨rfl, rfl⟩)
    go_ret
    exact ⟨retB (shl48 n), rfl⟩
  · go_enter Try.func32, Try.ntmps32
    go_wp2_with (go_at_call 37; refine (ftWidth 73 _).mono ?_; rw [show widthF 73 = 4 from rfl]; rintro e w' ⟨rfl, rfl⟩)
    go_ret
    exact ⟨retB (shl32 n), rfl⟩
  · go_enter Try.func32, Try.ntmps32
    go_wp2_with (go_at_call 37; refine (ftWidth 108 _).mono ?_; rw [show widthF 108 = 8 from rfl]; rintro e w' ⟨rfl, rfl⟩)
    go_ret
    exact ⟨retB (by simp [fitB]), rfl⟩
  · go_enter Try.func32, Try.ntmps32
    go_wp2_with (go_at_call 37; refine (ftWidth 100 _).mono ?_; rw [show widthF 100 = 8 from rfl]; rintro e w' ⟨rfl, rfl⟩)
    go_ret
    exact ⟨retB (by simp [fitB]), rfl⟩
  · go_enter Try.func32, Try.ntmps32
    go_wp2_with (go_at_call 37; refine (ftWidth 84 _).mono ?_; rw [show widthF 84 = 8 from rfl]; rintro e w' ⟨rfl, rfl⟩)
    go_ret
    exact ⟨retB (by simp [fitB]), rfl⟩
  · go_enter Try.func32, Try.ntmps32
    go_wp2
    go_ret
    exact ⟨retB (fit68 n), rfl⟩

end Go.Proofs.Ytdhaojicphhikaa
