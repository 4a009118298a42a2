/-
  warrenref03.wrongValue, and Check at every table (printed by genwv.py).
-/
import Derived.Test.YtdhaojicphhikaaTWrV1
import Derived.Test.YtdhaojicphhikaaTCheckV
import Derived.Test.YtdhaojicphhikaaTSameP
namespace Go.Proofs.Ytdhaojicphhikaa
open Go.RowKit

set_option maxRecDepth 100000 in
set_option maxHeartbeats 3200000 in
theorem wrV_68 (v : FV) (hk : v.kind = 68) (A B : Option Addr) (c d : Nat) (dp : Int) (F : Nat → Prop) (w : World) (hL : LAt w F A v.list) (hT : TAt w F B v.table) (hf : v.fit c d) (_h1 : 1 ≤ dp) (_h4 : dp ≤ 4) :
    Calls Try.prog 27 #[.agg #[.int .i64 v.kind, .int .i64 v.num, .string v.text, .slice A v.list.length c, .slice B v.table.length d], .int .i64 dp] w fun e w' => e = .returned (.int .i64 (errV v dp)) ∧ Kept noneS w w' := by
  have HE := Lib.hid ((errV_eq v dp).trans (shape_dec hk))
  obtain ⟨r, HR⟩ : ∃ r, Hid (errV v dp = r) := ⟨_, Lib.hid rfl⟩
  rw [HR.out] at HE ⊢
  clear HR
  obtain ⟨⟨_, _⟩, ⟨hn1, hn2⟩, ht, hlc, hcb, htd, hdb, _, _⟩ := hf
  have ka : Kept noneS w (w.alloc (.cells #[.int .i64 v.kind, .int .i64 v.num, .string v.text, .slice A v.list.length c, .slice B v.table.length d] 32)) := (Kept.refl noneS w).alloc _
  have KA := Lib.hid ka
  have HL := Lib.hid (hL.still ka)
  have HT := Lib.hid (hT.still ka)
  clear ka hL hT
  have qe68 : (v.kind == 68) = true := by rw [hk]; rfl
  have qe70 : (v.kind == 70) = false := by rw [hk]; rfl
  have qe116 : (v.kind == 116) = false := by rw [hk]; rfl
  have qn68 : (v.kind != 68) = false := by rw [hk]; rfl
  have qn65 : (v.kind != 65) = true := by rw [hk]; rfl
  have qn70 : (v.kind != 70) = true := by rw [hk]; rfl
  have qn83 : (v.kind != 83) = true := by rw [hk]; rfl
  have qn120 : (v.kind != 120) = true := by rw [hk]; rfl
  have qn116 : (v.kind != 116) = true := by rw [hk]; rfl
  have HW := Lib.hid (show widthP v.kind = 0 by rw [hk]; rfl)
  have HSg := Lib.hid (show (sgnP 4 v.num != v.num) = !fitB v.kind v.num by rw [hk]; exact sgn_fit68 v.num)
  clear hk
  by_cases hc : v.list.length = 0
  rotate_left
  · have hb : bareP true true false false v.num v.text v.list.length v.table.length = false := by unfold bareP; simp [hc]
    have fl : 0 < v.list.length := by omega
    have fl2 : decide (0 < (v.list.length : Int)) = true := by simpa using fl
    obtain rfl : r = 32 := by rw [HE.out, hb]; simp
    clear HE hb hc
    go_enter Try.func27, Try.ntmps27
    go_wp2_with ((go_at_call 34; refine (refWidth v.kind _).mono ?_; rw [HW.out]; rintro e w' ⟨rfl, rfl⟩))
    go_ret
    exact ⟨rfl, KA.out⟩
  have fl : ¬ 0 < v.list.length := by omega
  have fl2 : decide (0 < (v.list.length : Int)) = false := by simpa using fl
  have HL := Lib.hid hc
  clear hc
  by_cases hc : v.table.length = 0
  rotate_left
  · have hb : bareP true true false false v.num v.text v.list.length v.table.length = false := by unfold bareP; simp [hc]
    have ft : 0 < v.table.length := by omega
    have ft2 : decide (0 < (v.table.length : Int)) = true := by simpa using ft
    obtain rfl : r = 32 := by rw [HE.out, hb]; simp
    clear HE hb hc
    go_enter Try.func27, Try.ntmps27
    go_wp2_with ((go_at_call 34; refine (refWidth v.kind _).mono ?_; rw [HW.out]; rintro e w' ⟨rfl, rfl⟩))
    go_ret
    exact ⟨rfl, KA.out⟩
  have ft : ¬ 0 < v.table.length := by omega
  have ft2 : decide (0 < (v.table.length : Int)) = false := by simpa using ft
  have HT := Lib.hid hc
  clear hc
  by_cases hc : v.text.size = 1
  rotate_left
  · have hb : decide (v.text.size = 1) = false := by simpa using hc
    have fx : ((v.text.size : Int) != 1) = true := by simp; omega
    obtain rfl : r = 32 := by rw [HE.out, hb]; simp
    clear HE hb hc
    go_enter Try.func27, Try.ntmps27
    go_wp2_with ((go_at_call 34; refine (refWidth v.kind _).mono ?_; rw [HW.out]; rintro e w' ⟨rfl, rfl⟩))
    go_ret
    exact ⟨rfl, KA.out⟩
  have fx : ((v.text.size : Int) != 1) = false := by rw [hc]; rfl
  have HY := Lib.hid hc
  clear hc
  have hb : bareP true true false false v.num v.text v.list.length v.table.length = true := by unfold bareP; simp [HL.out, HT.out]
  rcases hf : fitB v.kind v.num with _ | _
  · have fs : (sgnP 4 v.num != v.num) = true := by rw [HSg.out, hf]; rfl
    obtain rfl : r = 32 := by rw [HE.out, hf]; simp
    clear HE hb hf
    go_enter Try.func27, Try.ntmps27
    go_wp2_with ((go_at_call 34; refine (refWidth v.kind _).mono ?_; rw [HW.out]; rintro e w' ⟨rfl, rfl⟩))
    go_quiet (((go_at_call 35; exact Calls.quiet_of_same ((refSigned 4 v.num _ (by decide)).mono (fun _ _ q => ⟨q.1, q.2.symm⟩)))))
    go_wp2
    go_ret
    exact ⟨rfl, KA.out.drewN _⟩
  · have fs : (sgnP 4 v.num != v.num) = false := by rw [HSg.out, hf]; rfl
    obtain rfl : r = 0 := by rw [HE.out, hf, hb, HY.out]; simp
    clear HE hb hf
    go_enter Try.func27, Try.ntmps27
    go_wp2_with ((go_at_call 34; refine (refWidth v.kind _).mono ?_; rw [HW.out]; rintro e w' ⟨rfl, rfl⟩))
    go_quiet (((go_at_call 35; exact Calls.quiet_of_same ((refSigned 4 v.num _ (by decide)).mono (fun _ _ q => ⟨q.1, q.2.symm⟩)))))
    go_wp2
    go_ret
    exact ⟨rfl, KA.out.drewN _⟩

set_option maxRecDepth 100000 in
set_option maxHeartbeats 3200000 in
theorem wrV_83 (v : FV) (hk : v.kind = 83) (A B : Option Addr) (c d : Nat) (dp : Int) (F : Nat → Prop) (w : World) (hL : LAt w F A v.list) (hT : TAt w F B v.table) (hf : v.fit c d) (_h1 : 1 ≤ dp) (_h4 : dp ≤ 4) :
    Calls Try.prog 27 #[.agg #[.int .i64 v.kind, .int .i64 v.num, .string v.text, .slice A v.list.length c, .slice B v.table.length d], .int .i64 dp] w fun e w' => e = .returned (.int .i64 (errV v dp)) ∧ Kept noneS w w' := by
  have HE := Lib.hid ((errV_eq v dp).trans (shape_txt (by omega)))
  obtain ⟨r, HR⟩ : ∃ r, Hid (errV v dp = r) := ⟨_, Lib.hid rfl⟩
  rw [HR.out] at HE ⊢
  clear HR
  obtain ⟨⟨_, _⟩, ⟨hn1, hn2⟩, ht, hlc, hcb, htd, hdb, _, _⟩ := hf
  have ka : Kept noneS w (w.alloc (.cells #[.int .i64 v.kind, .int .i64 v.num, .string v.text, .slice A v.list.length c, .slice B v.table.length d] 32)) := (Kept.refl noneS w).alloc _
  have KA := Lib.hid ka
  have HL := Lib.hid (hL.still ka)
  have HT := Lib.hid (hT.still ka)
  clear ka hL hT
  have qe68 : (v.kind == 68) = false := by rw [hk]; rfl
  have qe70 : (v.kind == 70) = false := by rw [hk]; rfl
  have qe116 : (v.kind == 116) = false := by rw [hk]; rfl
  have qn68 : (v.kind != 68) = true := by rw [hk]; rfl
  have qn65 : (v.kind != 65) = true := by rw [hk]; rfl
  have qn70 : (v.kind != 70) = true := by rw [hk]; rfl
  have qn83 : (v.kind != 83) = false := by rw [hk]; rfl
  have qn120 : (v.kind != 120) = true := by rw [hk]; rfl
  have qn116 : (v.kind != 116) = true := by rw [hk]; rfl
  have HW := Lib.hid (show widthP v.kind = 0 by rw [hk]; rfl)
  clear hk
  by_cases hc : v.num = 0
  rotate_left
  · have hb : bareP false true false false v.num v.text v.list.length v.table.length = false := by unfold bareP; simp [hc]
    have fn : (v.num != 0) = true := by simpa using hc
    obtain rfl : r = 32 := by rw [HE.out, hb]; simp
    clear HE hb hc
    go_enter Try.func27, Try.ntmps27
    go_wp2_with ((go_at_call 34; refine (refWidth v.kind _).mono ?_; rw [HW.out]; rintro e w' ⟨rfl, rfl⟩))
    go_ret
    exact ⟨rfl, KA.out⟩
  have fn : (v.num != 0) = false := by simpa using hc
  have HN := Lib.hid hc
  clear hc
  by_cases hc : v.list.length = 0
  rotate_left
  · have hb : bareP false true false false v.num v.text v.list.length v.table.length = false := by unfold bareP; simp [hc]
    have fl : 0 < v.list.length := by omega
    have fl2 : decide (0 < (v.list.length : Int)) = true := by simpa using fl
    obtain rfl : r = 32 := by rw [HE.out, hb]; simp
    clear HE hb hc
    go_enter Try.func27, Try.ntmps27
    go_wp2_with ((go_at_call 34; refine (refWidth v.kind _).mono ?_; rw [HW.out]; rintro e w' ⟨rfl, rfl⟩))
    go_ret
    exact ⟨rfl, KA.out⟩
  have fl : ¬ 0 < v.list.length := by omega
  have fl2 : decide (0 < (v.list.length : Int)) = false := by simpa using fl
  have HL := Lib.hid hc
  clear hc
  by_cases hc : v.table.length = 0
  rotate_left
  · have hb : bareP false true false false v.num v.text v.list.length v.table.length = false := by unfold bareP; simp [hc]
    have ft : 0 < v.table.length := by omega
    have ft2 : decide (0 < (v.table.length : Int)) = true := by simpa using ft
    obtain rfl : r = 32 := by rw [HE.out, hb]; simp
    clear HE hb hc
    go_enter Try.func27, Try.ntmps27
    go_wp2_with ((go_at_call 34; refine (refWidth v.kind _).mono ?_; rw [HW.out]; rintro e w' ⟨rfl, rfl⟩))
    go_ret
    exact ⟨rfl, KA.out⟩
  have ft : ¬ 0 < v.table.length := by omega
  have ft2 : decide (0 < (v.table.length : Int)) = false := by simpa using ft
  have HT := Lib.hid hc
  clear hc
  have hb : bareP false true false false v.num v.text v.list.length v.table.length = true := by unfold bareP; simp [HN.out, HL.out, HT.out]
  by_cases hs : 65535 < v.text.size
  · have hs' : decide (65535 < (v.text.size : Int)) = true := by simp; omega
    obtain rfl : r = 1 := by rw [HE.out, hb, if_pos rfl, if_pos hs]
    clear HE hb
    go_enter Try.func27, Try.ntmps27
    go_wp2_with ((go_at_call 34; refine (refWidth v.kind _).mono ?_; rw [HW.out]; rintro e w' ⟨rfl, rfl⟩))
    go_quiet ((fail))
    go_wp2
    go_ret
    exact ⟨rfl, KA.out.drewN _⟩
  · have hs' : decide (65535 < (v.text.size : Int)) = false := by simp; omega
    obtain rfl : r = 0 := by rw [HE.out, hb, if_pos rfl, if_neg hs]
    clear HE hb
    go_enter Try.func27, Try.ntmps27
    go_wp2_with ((go_at_call 34; refine (refWidth v.kind _).mono ?_; rw [HW.out]; rintro e w' ⟨rfl, rfl⟩))
    go_quiet ((fail))
    go_wp2
    go_ret
    exact ⟨rfl, KA.out.drewN _⟩

set_option maxRecDepth 100000 in
set_option maxHeartbeats 3200000 in
theorem wrV_120 (v : FV) (hk : v.kind = 120) (A B : Option Addr) (c d : Nat) (dp : Int) (F : Nat → Prop) (w : World) (hL : LAt w F A v.list) (hT : TAt w F B v.table) (hf : v.fit c d) (_h1 : 1 ≤ dp) (_h4 : dp ≤ 4) :
    Calls Try.prog 27 #[.agg #[.int .i64 v.kind, .int .i64 v.num, .string v.text, .slice A v.list.length c, .slice B v.table.length d], .int .i64 dp] w fun e w' => e = .returned (.int .i64 (errV v dp)) ∧ Kept noneS w w' := by
  have HE := Lib.hid ((errV_eq v dp).trans (shape_txt (by omega)))
  obtain ⟨r, HR⟩ : ∃ r, Hid (errV v dp = r) := ⟨_, Lib.hid rfl⟩
  rw [HR.out] at HE ⊢
  clear HR
  obtain ⟨⟨_, _⟩, ⟨hn1, hn2⟩, ht, hlc, hcb, htd, hdb, _, _⟩ := hf
  have ka : Kept noneS w (w.alloc (.cells #[.int .i64 v.kind, .int .i64 v.num, .string v.text, .slice A v.list.length c, .slice B v.table.length d] 32)) := (Kept.refl noneS w).alloc _
  have KA := Lib.hid ka
  have HL := Lib.hid (hL.still ka)
  have HT := Lib.hid (hT.still ka)
  clear ka hL hT
  have qe68 : (v.kind == 68) = false := by rw [hk]; rfl
  have qe70 : (v.kind == 70) = false := by rw [hk]; rfl
  have qe116 : (v.kind == 116) = false := by rw [hk]; rfl
  have qn68 : (v.kind != 68) = true := by rw [hk]; rfl
  have qn65 : (v.kind != 65) = true := by rw [hk]; rfl
  have qn70 : (v.kind != 70) = true := by rw [hk]; rfl
  have qn83 : (v.kind != 83) = true := by rw [hk]; rfl
  have qn120 : (v.kind != 120) = false := by rw [hk]; rfl
  have qn116 : (v.kind != 116) = true := by rw [hk]; rfl
  have HW := Lib.hid (show widthP v.kind = 0 by rw [hk]; rfl)
  clear hk
  by_cases hc : v.num = 0
  rotate_left
  · have hb : bareP false true false false v.num v.text v.list.length v.table.length = false := by unfold bareP; simp [hc]
    have fn : (v.num != 0) = true := by simpa using hc
    obtain rfl : r = 32 := by rw [HE.out, hb]; simp
    clear HE hb hc
    go_enter Try.func27, Try.ntmps27
    go_wp2_with ((go_at_call 34; refine (refWidth v.kind _).mono ?_; rw [HW.out]; rintro e w' ⟨rfl, rfl⟩))
    go_ret
    exact ⟨rfl, KA.out⟩
  have fn : (v.num != 0) = false := by simpa using hc
  have HN := Lib.hid hc
  clear hc
  by_cases hc : v.list.length = 0
  rotate_left
  · have hb : bareP false true false false v.num v.text v.list.length v.table.length = false := by unfold bareP; simp [hc]
    have fl : 0 < v.list.length := by omega
    have fl2 : decide (0 < (v.list.length : Int)) = true := by simpa using fl
    obtain rfl : r = 32 := by rw [HE.out, hb]; simp
    clear HE hb hc
    go_enter Try.func27, Try.ntmps27
    go_wp2_with ((go_at_call 34; refine (refWidth v.kind _).mono ?_; rw [HW.out]; rintro e w' ⟨rfl, rfl⟩))
    go_ret
    exact ⟨rfl, KA.out⟩
  have fl : ¬ 0 < v.list.length := by omega
  have fl2 : decide (0 < (v.list.length : Int)) = false := by simpa using fl
  have HL := Lib.hid hc
  clear hc
  by_cases hc : v.table.length = 0
  rotate_left
  · have hb : bareP false true false false v.num v.text v.list.length v.table.length = false := by unfold bareP; simp [hc]
    have ft : 0 < v.table.length := by omega
    have ft2 : decide (0 < (v.table.length : Int)) = true := by simpa using ft
    obtain rfl : r = 32 := by rw [HE.out, hb]; simp
    clear HE hb hc
    go_enter Try.func27, Try.ntmps27
    go_wp2_with ((go_at_call 34; refine (refWidth v.kind _).mono ?_; rw [HW.out]; rintro e w' ⟨rfl, rfl⟩))
    go_ret
    exact ⟨rfl, KA.out⟩
  have ft : ¬ 0 < v.table.length := by omega
  have ft2 : decide (0 < (v.table.length : Int)) = false := by simpa using ft
  have HT := Lib.hid hc
  clear hc
  have hb : bareP false true false false v.num v.text v.list.length v.table.length = true := by unfold bareP; simp [HN.out, HL.out, HT.out]
  by_cases hs : 65535 < v.text.size
  · have hs' : decide (65535 < (v.text.size : Int)) = true := by simp; omega
    obtain rfl : r = 1 := by rw [HE.out, hb, if_pos rfl, if_pos hs]
    clear HE hb
    go_enter Try.func27, Try.ntmps27
    go_wp2_with ((go_at_call 34; refine (refWidth v.kind _).mono ?_; rw [HW.out]; rintro e w' ⟨rfl, rfl⟩))
    go_quiet ((fail))
    go_wp2
    go_ret
    exact ⟨rfl, KA.out.drewN _⟩
  · have hs' : decide (65535 < (v.text.size : Int)) = false := by simp; omega
    obtain rfl : r = 0 := by rw [HE.out, hb, if_pos rfl, if_neg hs]
    clear HE hb
    go_enter Try.func27, Try.ntmps27
    go_wp2_with ((go_at_call 34; refine (refWidth v.kind _).mono ?_; rw [HW.out]; rintro e w' ⟨rfl, rfl⟩))
    go_quiet ((fail))
    go_wp2
    go_ret
    exact ⟨rfl, KA.out.drewN _⟩


end Go.Proofs.Ytdhaojicphhikaa
