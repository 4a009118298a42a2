/-
  warrenref03.wrongValue, and Check at every table (printed by genwv.py).
-/
import Derived.Test.YtdhaojicphhikaaTWrT
import Derived.Test.YtdhaojicphhikaaTCheckV
import Derived.Test.YtdhaojicphhikaaTSameP
namespace Go.Proofs.Ytdhaojicphhikaa
open Go.RowKit

theorem sgn_fit68 (n : Int) : (sgnP 4 n != n) = !fitB 68 n := by
  simp only [sgnP, fitB]
  rw [Bool.eq_iff_iff]
  simp
  omega

set_option maxRecDepth 100000 in
set_option maxHeartbeats 3200000 in
theorem wrV_116 (v : FV) (hk : v.kind = 116) (A B : Option Addr) (c d : Nat) (dp : Int) (F : Nat → Prop) (w : World) (hL : LAt w F A v.list) (hT : TAt w F B v.table) (hf : v.fit c d) (_h1 : 1 ≤ dp) (_h4 : dp ≤ 4) :
    Calls Try.prog 27 #[.agg #[.int .i64 v.kind, .int .i64 v.num, .string v.text, .slice A v.list.length c, .slice B v.table.length d], .int .i64 dp] w fun e w' => e = .returned (.int .i64 (errV v dp)) ∧ Kept noneS w w' := by
  have HE := Lib.hid ((errV_eq v dp).trans (shape_num (by rw [hk]; rfl)))
  obtain ⟨r, HR⟩ : ∃ r, Hid (errV v dp = r) := ⟨_, Lib.hid rfl⟩
  rw [HR.out] at HE ⊢
  clear HR
  obtain ⟨⟨_, _⟩, ⟨hn1, hn2⟩, ht, hlc, hcb, htd, hdb, _, _⟩ := hf
  have ka : Kept noneS w (w.alloc (.cells #[.int .i64 v.kind, .int .i64 v.num, .string v.text, .slice A v.list.length c, .slice B v.table.length d] 32)) := (Kept.refl noneS w).alloc _
  have KA := Lib.hid ka
  have HL := Lib.hid (hL.still ka)
  have HT := Lib.hid (hT.still ka)
  clear ka hL hT
  have qe68 : (v.kind == 68) = false := by rw [hk]; rfl
  have qe70 : (v.kind == 70) = false := by rw [hk]; rfl
  have qe116 : (v.kind == 116) = true := by rw [hk]; rfl
  have qn68 : (v.kind != 68) = true := by rw [hk]; rfl
  have qn65 : (v.kind != 65) = true := by rw [hk]; rfl
  have qn70 : (v.kind != 70) = true := by rw [hk]; rfl
  have qn83 : (v.kind != 83) = true := by rw [hk]; rfl
  have qn120 : (v.kind != 120) = true := by rw [hk]; rfl
  have qn116 : (v.kind != 116) = false := by rw [hk]; rfl
  have HW := Lib.hid (show widthP v.kind = 1 by rw [hk]; rfl)
  have HFt := Lib.hid (show fitB v.kind v.num = (v.num == 0 || v.num == 1) by rw [hk]; rfl)
  clear hk
  by_cases hc : v.list.length = 0
  rotate_left
  · have hb : bareP true false false false v.num v.text v.list.length v.table.length = false := by unfold bareP; simp [hc]
    have fl : 0 < v.list.length := by omega
    have fl2 : decide (0 < (v.list.length : Int)) = true := by simpa using fl
    obtain rfl : r = 32 := by rw [HE.out, hb]; simp
    clear HE hb hc
    go_enter Try.func27, Try.ntmps27
    go_wp2_with ((go_at_call 34; refine (refWidth v.kind _).mono ?_; rw [HW.out]; rintro e w' ⟨rfl, rfl⟩))
    go_ret
    exact ⟨rfl, KA.out⟩
  have fl : ¬ 0 < v.list.length := by omega
  have fl2 : decide (0 < (v.list.length : Int)) = false := by simpa using fl
  have HL := Lib.hid hc
  clear hc
  by_cases hc : v.table.length = 0
  rotate_left
  · have hb : bareP true false false false v.num v.text v.list.length v.table.length = false := by unfold bareP; simp [hc]
    have ft : 0 < v.table.length := by omega
    have ft2 : decide (0 < (v.table.length : Int)) = true := by simpa using ft
    obtain rfl : r = 32 := by rw [HE.out, hb]; simp
    clear HE hb hc
    go_enter Try.func27, Try.ntmps27
    go_wp2_with ((go_at_call 34; refine (refWidth v.kind _).mono ?_; rw [HW.out]; rintro e w' ⟨rfl, rfl⟩))
    go_ret
    exact ⟨rfl, KA.out⟩
  have ft : ¬ 0 < v.table.length := by omega
  have ft2 : decide (0 < (v.table.length : Int)) = false := by simpa using ft
  have HT := Lib.hid hc
  clear hc
  by_cases hc : v.text.toList = []
  rotate_left
  · have hb : bareP true false false false v.num v.text v.list.length v.table.length = false := by unfold bareP; simp [hc]
    have fx : v.text.toList.isEmpty = false := by simpa using hc
    obtain rfl : r = 32 := by rw [HE.out, hb]; simp
    clear HE hb hc
    go_enter Try.func27, Try.ntmps27
    go_wp2_with ((go_at_call 34; refine (refWidth v.kind _).mono ?_; rw [HW.out]; rintro e w' ⟨rfl, rfl⟩))
    go_ret
    exact ⟨rfl, KA.out⟩
  have fx : v.text.toList.isEmpty = true := by simpa using hc
  have fx2 : v.text.size ≤ 65535 := by have := toList_size v.text; rw [hc] at this; simp at this; omega
  have fx3 : decide (65535 < (v.text.size : Int)) = false := by simp; omega
  have HX := Lib.hid hc
  clear hc
  have hb : bareP true false false false v.num v.text v.list.length v.table.length = true := by unfold bareP; simp [HL.out, HT.out, HX.out]
  rcases g0 : (v.num == 0) with _ | _
  · have g0n : (v.num != 0) = true := by simp [bne, g0]
    rcases g1 : (v.num == 1) with _ | _
    · have g1n : (v.num != 1) = true := by simp [bne, g1]
      have hf : fitB v.kind v.num = false := by rw [HFt.out, g0, g1]; rfl
      obtain rfl : r = 32 := by rw [HE.out, hf]; simp
      clear HE hb hf
      go_enter Try.func27, Try.ntmps27
      go_wp2_with ((go_at_call 34; refine (refWidth v.kind _).mono ?_; rw [HW.out]; rintro e w' ⟨rfl, rfl⟩))
      go_quiet ((fail))
      go_wp2
      go_ret
      exact ⟨rfl, KA.out.drewN _⟩
    · have g1n : (v.num != 1) = false := by simp [bne, g1]
      have hf : fitB v.kind v.num = true := by rw [HFt.out, g0, g1]; rfl
      obtain rfl : r = 0 := by rw [HE.out, hf, hb]; simp
      clear HE hb hf
      go_enter Try.func27, Try.ntmps27
      go_wp2_with ((go_at_call 34; refine (refWidth v.kind _).mono ?_; rw [HW.out]; rintro e w' ⟨rfl, rfl⟩))
      go_quiet ((fail))
      go_wp2
      go_ret
      exact ⟨rfl, KA.out.drewN _⟩
  · have g0n : (v.num != 0) = false := by simp [bne, g0]
    have hf : fitB v.kind v.num = true := by rw [HFt.out, g0]; rfl
    obtain rfl : r = 0 := by rw [HE.out, hf, hb]; simp
    clear HE hb hf
    go_enter Try.func27, Try.ntmps27
    go_wp2_with ((go_at_call 34; refine (refWidth v.kind _).mono ?_; rw [HW.out]; rintro e w' ⟨rfl, rfl⟩))
    go_quiet ((fail))
    go_wp2
    go_ret
    exact ⟨rfl, KA.out.drewN _⟩

set_option maxRecDepth 100000 in
set_option maxHeartbeats 3200000 in
theorem wrV_98 (v : FV) (hk : v.kind = 98) (A B : Option Addr) (c d : Nat) (dp : Int) (F : Nat → Prop) (w : World) (hL : LAt w F A v.list) (hT : TAt w F B v.table) (hf : v.fit c d) (_h1 : 1 ≤ dp) (_h4 : dp ≤ 4) :
    Calls Try.prog 27 #[.agg #[.int .i64 v.kind, .int .i64 v.num, .string v.text, .slice A v.list.length c, .slice B v.table.length d], .int .i64 dp] w fun e w' => e = .returned (.int .i64 (errV v dp)) ∧ Kept noneS w w' := by
  have HE := Lib.hid ((errV_eq v dp).trans (shape_num (by rw [hk]; rfl)))
  obtain ⟨r, HR⟩ : ∃ r, Hid (errV v dp = r) := ⟨_, Lib.hid rfl⟩
  rw [HR.out] at HE ⊢
  clear HR
  obtain ⟨⟨_, _⟩, ⟨hn1, hn2⟩, ht, hlc, hcb, htd, hdb, _, _⟩ := hf
  have ka : Kept noneS w (w.alloc (.cells #[.int .i64 v.kind, .int .i64 v.num, .string v.text, .slice A v.list.length c, .slice B v.table.length d] 32)) := (Kept.refl noneS w).alloc _
  have KA := Lib.hid ka
  have HL := Lib.hid (hL.still ka)
  have HT := Lib.hid (hT.still ka)
  clear ka hL hT
  have qe68 : (v.kind == 68) = false := by rw [hk]; rfl
  have qe70 : (v.kind == 70) = false := by rw [hk]; rfl
  have qe116 : (v.kind == 116) = false := by rw [hk]; rfl
  have qn68 : (v.kind != 68) = true := by rw [hk]; rfl
  have qn65 : (v.kind != 65) = true := by rw [hk]; rfl
  have qn70 : (v.kind != 70) = true := by rw [hk]; rfl
  have qn83 : (v.kind != 83) = true := by rw [hk]; rfl
  have qn120 : (v.kind != 120) = true := by rw [hk]; rfl
  have qn116 : (v.kind != 116) = true := by rw [hk]; rfl
  have HW := Lib.hid (show widthP v.kind = 1 by rw [hk]; rfl)
  have HSg := Lib.hid (show (sgnP 1 v.num != v.num) = !fitB v.kind v.num by have := sgn_fit v.kind v.num (by omega) hn1 hn2; rw [HW.out] at this; exact this)
  clear hk
  by_cases hc : v.list.length = 0
  rotate_left
  · have hb : bareP true false false false v.num v.text v.list.length v.table.length = false := by unfold bareP; simp [hc]
    have fl : 0 < v.list.length := by omega
    have fl2 : decide (0 < (v.list.length : Int)) = true := by simpa using fl
    obtain rfl : r = 32 := by rw [HE.out, hb]; simp
    clear HE hb hc
    go_enter Try.func27, Try.ntmps27
    go_wp2_with ((go_at_call 34; refine (refWidth v.kind _).mono ?_; rw [HW.out]; rintro e w' ⟨rfl, rfl⟩))
    go_ret
    exact ⟨rfl, KA.out⟩
  have fl : ¬ 0 < v.list.length := by omega
  have fl2 : decide (0 < (v.list.length : Int)) = false := by simpa using fl
  have HL := Lib.hid hc
  clear hc
  by_cases hc : v.table.length = 0
  rotate_left
  · have hb : bareP true false false false v.num v.text v.list.length v.table.length = false := by unfold bareP; simp [hc]
    have ft : 0 < v.table.length := by omega
    have ft2 : decide (0 < (v.table.length : Int)) = true := by simpa using ft
    obtain rfl : r = 32 := by rw [HE.out, hb]; simp
    clear HE hb hc
    go_enter Try.func27, Try.ntmps27
    go_wp2_with ((go_at_call 34; refine (refWidth v.kind _).mono ?_; rw [HW.out]; rintro e w' ⟨rfl, rfl⟩))
    go_ret
    exact ⟨rfl, KA.out⟩
  have ft : ¬ 0 < v.table.length := by omega
  have ft2 : decide (0 < (v.table.length : Int)) = false := by simpa using ft
  have HT := Lib.hid hc
  clear hc
  by_cases hc : v.text.toList = []
  rotate_left
  · have hb : bareP true false false false v.num v.text v.list.length v.table.length = false := by unfold bareP; simp [hc]
    have fx : v.text.toList.isEmpty = false := by simpa using hc
    obtain rfl : r = 32 := by rw [HE.out, hb]; simp
    clear HE hb hc
    go_enter Try.func27, Try.ntmps27
    go_wp2_with ((go_at_call 34; refine (refWidth v.kind _).mono ?_; rw [HW.out]; rintro e w' ⟨rfl, rfl⟩))
    go_ret
    exact ⟨rfl, KA.out⟩
  have fx : v.text.toList.isEmpty = true := by simpa using hc
  have fx2 : v.text.size ≤ 65535 := by have := toList_size v.text; rw [hc] at this; simp at this; omega
  have fx3 : decide (65535 < (v.text.size : Int)) = false := by simp; omega
  have HX := Lib.hid hc
  clear hc
  have hb : bareP true false false false v.num v.text v.list.length v.table.length = true := by unfold bareP; simp [HL.out, HT.out, HX.out]
  rcases hf : fitB v.kind v.num with _ | _
  · have fs : (sgnP 1 v.num != v.num) = true := by rw [HSg.out, hf]; rfl
    obtain rfl : r = 32 := by rw [HE.out, hf]; simp
    clear HE hb hf
    go_enter Try.func27, Try.ntmps27
    go_wp2_with ((go_at_call 34; refine (refWidth v.kind _).mono ?_; rw [HW.out]; rintro e w' ⟨rfl, rfl⟩))
    go_quiet (((go_at_call 35; exact Calls.quiet_of_same ((refSigned 1 v.num _ (by decide)).mono (fun _ _ q => ⟨q.1, q.2.symm⟩)))))
    go_wp2
    go_ret
    exact ⟨rfl, KA.out.drewN _⟩
  · have fs : (sgnP 1 v.num != v.num) = false := by rw [HSg.out, hf]; rfl
    obtain rfl : r = 0 := by rw [HE.out, hf, hb]; simp
    clear HE hb hf
    go_enter Try.func27, Try.ntmps27
    go_wp2_with ((go_at_call 34; refine (refWidth v.kind _).mono ?_; rw [HW.out]; rintro e w' ⟨rfl, rfl⟩))
    go_quiet (((go_at_call 35; exact Calls.quiet_of_same ((refSigned 1 v.num _ (by decide)).mono (fun _ _ q => ⟨q.1, q.2.symm⟩)))))
    go_wp2
    go_ret
    exact ⟨rfl, KA.out.drewN _⟩

set_option maxRecDepth 100000 in
set_option maxHeartbeats 3200000 in
theorem wrV_115 (v : FV) (hk : v.kind = 115) (A B : Option Addr) (c d : Nat) (dp : Int) (F : Nat → Prop) (w : World) (hL : LAt w F A v.list) (hT : TAt w F B v.table) (hf : v.fit c d) (_h1 : 1 ≤ dp) (_h4 : dp ≤ 4) :
    Calls Try.prog 27 #[.agg #[.int .i64 v.kind, .int .i64 v.num, .string v.text, .slice A v.list.length c, .slice B v.table.length d], .int .i64 dp] w fun e w' => e = .returned (.int .i64 (errV v dp)) ∧ Kept noneS w w' := by
  have HE := Lib.hid ((errV_eq v dp).trans (shape_num (by rw [hk]; rfl)))
  obtain ⟨r, HR⟩ : ∃ r, Hid (errV v dp = r) := ⟨_, Lib.hid rfl⟩
  rw [HR.out] at HE ⊢
  clear HR
  obtain ⟨⟨_, _⟩, ⟨hn1, hn2⟩, ht, hlc, hcb, htd, hdb, _, _⟩ := hf
  have ka : Kept noneS w (w.alloc (.cells #[.int .i64 v.kind, .int .i64 v.num, .string v.text, .slice A v.list.length c, .slice B v.table.length d] 32)) := (Kept.refl noneS w).alloc _
  have KA := Lib.hid ka
  have HL := Lib.hid (hL.still ka)
  have HT := Lib.hid (hT.still ka)
  clear ka hL hT
  have qe68 : (v.kind == 68) = false := by rw [hk]; rfl
  have qe70 : (v.kind == 70) = false := by rw [hk]; rfl
  have qe116 : (v.kind == 116) = false := by rw [hk]; rfl
  have qn68 : (v.kind != 68) = true := by rw [hk]; rfl
  have qn65 : (v.kind != 65) = true := by rw [hk]; rfl
  have qn70 : (v.kind != 70) = true := by rw [hk]; rfl
  have qn83 : (v.kind != 83) = true := by rw [hk]; rfl
  have qn120 : (v.kind != 120) = true := by rw [hk]; rfl
  have qn116 : (v.kind != 116) = true := by rw [hk]; rfl
  have HW := Lib.hid (show widthP v.kind = 2 by rw [hk]; rfl)
  have HSg := Lib.hid (show (sgnP 2 v.num != v.num) = !fitB v.kind v.num by have := sgn_fit v.kind v.num (by omega) hn1 hn2; rw [HW.out] at this; exact this)
  clear hk
  by_cases hc : v.list.length = 0
  rotate_left
  · have hb : bareP true false false false v.num v.text v.list.length v.table.length = false := by unfold bareP; simp [hc]
    have fl : 0 < v.list.length := by omega
    have fl2 : decide (0 < (v.list.length : Int)) = true := by simpa using fl
    obtain rfl : r = 32 := by rw [HE.out, hb]; simp
    clear HE hb hc
    go_enter Try.func27, Try.ntmps27
    go_wp2_with ((go_at_call 34; refine (refWidth v.kind _).mono ?_; rw [HW.out]; rintro e w' ⟨rfl, rfl⟩))
    go_ret
    exact ⟨rfl, KA.out⟩
  have fl : ¬ 0 < v.list.length := by omega
  have fl2 : decide (0 < (v.list.length : Int)) = false := by simpa using fl
  have HL := Lib.hid hc
  clear hc
  by_cases hc : v.table.length = 0
  rotate_left
  · have hb : bareP true false false false v.num v.text v.list.length v.table.length = false := by unfold bareP; simp [hc]
    have ft : 0 < v.table.length := by omega
    have ft2 : decide (0 < (v.table.length : Int)) = true := by simpa using ft
    obtain rfl : r = 32 := by rw [HE.out, hb]; simp
    clear HE hb hc
    go_enter Try.func27, Try.ntmps27
    go_wp2_with ((go_at_call 34; refine (refWidth v.kind _).mono ?_; rw [HW.out]; rintro e w' ⟨rfl, rfl⟩))
    go_ret
    exact ⟨rfl, KA.out⟩
  have ft : ¬ 0 < v.table.length := by omega
  have ft2 : decide (0 < (v.table.length : Int)) = false := by simpa using ft
  have HT := Lib.hid hc
  clear hc
  by_cases hc : v.text.toList = []
  rotate_left
  · have hb : bareP true false false false v.num v.text v.list.length v.table.length = false := by unfold bareP; simp [hc]
    have fx : v.text.toList.isEmpty = false := by simpa using hc
    obtain rfl : r = 32 := by rw [HE.out, hb]; simp
    clear HE hb hc
    go_enter Try.func27, Try.ntmps27
    go_wp2_with ((go_at_call 34; refine (refWidth v.kind _).mono ?_; rw [HW.out]; rintro e w' ⟨rfl, rfl⟩))
    go_ret
    exact ⟨rfl, KA.out⟩
  have fx : v.text.toList.isEmpty = true := by simpa using hc
  have fx2 : v.text.size ≤ 65535 := by have := toList_size v.text; rw [hc] at this; simp at this; omega
  have fx3 : decide (65535 < (v.text.size : Int)) = false := by simp; omega
  have HX := Lib.hid hc
  clear hc
  have hb : bareP true false false false v.num v.text v.list.length v.table.length = true := by unfold bareP; simp [HL.out, HT.out, HX.out]
  rcases hf : fitB v.kind v.num with _ | _
  · have fs : (sgnP 2 v.num != v.num) = true := by rw [HSg.out, hf]; rfl
    obtain rfl : r = 32 := by rw [HE.out, hf]; simp
    clear HE hb hf
    go_enter Try.func27, Try.ntmps27
    go_wp2_with ((go_at_call 34; refine (refWidth v.kind _).mono ?_; rw [HW.out]; rintro e w' ⟨rfl, rfl⟩))
    go_quiet (((go_at_call 35; exact Calls.quiet_of_same ((refSigned 2 v.num _ (by decide)).mono (fun _ _ q => ⟨q.1, q.2.symm⟩)))))
    go_wp2
    go_ret
    exact ⟨rfl, KA.out.drewN _⟩
  · have fs : (sgnP 2 v.num != v.num) = false := by rw [HSg.out, hf]; rfl
    obtain rfl : r = 0 := by rw [HE.out, hf, hb]; simp
    clear HE hb hf
    go_enter Try.func27, Try.ntmps27
    go_wp2_with ((go_at_call 34; refine (refWidth v.kind _).mono ?_; rw [HW.out]; rintro e w' ⟨rfl, rfl⟩))
    go_quiet (((go_at_call 35; exact Calls.quiet_of_same ((refSigned 2 v.num _ (by decide)).mono (fun _ _ q => ⟨q.1, q.2.symm⟩)))))
    go_wp2
    go_ret
    exact ⟨rfl, KA.out.drewN _⟩


end Go.Proofs.Ytdhaojicphhikaa
