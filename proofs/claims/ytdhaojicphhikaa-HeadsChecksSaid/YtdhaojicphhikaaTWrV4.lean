/-
  warrenref03.wrongValue, and Check at every table (printed by genwv.py).
-/
import Derived.Test.YtdhaojicphhikaaTWrV1
import Derived.Test.YtdhaojicphhikaaTCheckV
import Derived.Test.YtdhaojicphhikaaTSameP
namespace Go.Proofs.Ytdhaojicphhikaa
open Go.RowKit

set_option maxRecDepth 100000 in
set_option maxHeartbeats 3200000 in
theorem wrV_86 (v : FV) (hk : v.kind = 86) (A B : Option Addr) (c d : Nat) (dp : Int) (F : Nat → Prop) (w : World) (hL : LAt w F A v.list) (hT : TAt w F B v.table) (hf : v.fit c d) (_h1 : 1 ≤ dp) (_h4 : dp ≤ 4) :
    Calls Try.prog 27 #[.agg #[.int .i64 v.kind, .int .i64 v.num, .string v.text, .slice A v.list.length c, .slice B v.table.length d], .int .i64 dp] w fun e w' => e = .returned (.int .i64 (errV v dp)) ∧ Kept noneS w w' := by
  have HE := Lib.hid ((errV_eq v dp).trans (shape_void hk))
  obtain ⟨r, HR⟩ : ∃ r, Hid (errV v dp = r) := ⟨_, Lib.hid rfl⟩
  rw [HR.out] at HE ⊢
  clear HR
  obtain ⟨⟨_, _⟩, ⟨hn1, hn2⟩, ht, hlc, hcb, htd, hdb, _, _⟩ := hf
  have ka : Kept noneS w (w.alloc (.cells #[.int .i64 v.kind, .int .i64 v.num, .string v.text, .slice A v.list.length c, .slice B v.table.length d] 32)) := (Kept.refl noneS w).alloc _
  have KA := Lib.hid ka
  have HL := Lib.hid (hL.still ka)
  have HT := Lib.hid (hT.still ka)
  clear ka hL hT
  have qe68 : (v.kind == 68) = false := by rw [hk]; rfl
  have qe70 : (v.kind == 70) = false := by rw [hk]; rfl
  have qe116 : (v.kind == 116) = false := by rw [hk]; rfl
  have qn68 : (v.kind != 68) = true := by rw [hk]; rfl
  have qn65 : (v.kind != 65) = true := by rw [hk]; rfl
  have qn70 : (v.kind != 70) = true := by rw [hk]; rfl
  have qn83 : (v.kind != 83) = true := by rw [hk]; rfl
  have qn120 : (v.kind != 120) = true := by rw [hk]; rfl
  have qn116 : (v.kind != 116) = true := by rw [hk]; rfl
  have HW := Lib.hid (show widthP v.kind = 0 by rw [hk]; rfl)
  clear hk
  by_cases hc : v.num = 0
  rotate_left
  · have hb : bareP false false false false v.num v.text v.list.length v.table.length = false := by unfold bareP; simp [hc]
    have fn : (v.num != 0) = true := by simpa using hc
    obtain rfl : r = 32 := by rw [HE.out, hb]; simp
    clear HE hb hc
    go_enter Try.func27, Try.ntmps27
    go_wp2_with ((go_at_call 34; refine (refWidth v.kind _).mono ?_; rw [HW.out]; rintro e w' ⟨rfl, rfl⟩))
    go_ret
    exact ⟨rfl, KA.out⟩
  have fn : (v.num != 0) = false := by simpa using hc
  have HN := Lib.hid hc
  clear hc
  by_cases hc : v.list.length = 0
  rotate_left
  · have hb : bareP false false false false v.num v.text v.list.length v.table.length = false := by unfold bareP; simp [hc]
    have fl : 0 < v.list.length := by omega
    have fl2 : decide (0 < (v.list.length : Int)) = true := by simpa using fl
    obtain rfl : r = 32 := by rw [HE.out, hb]; simp
    clear HE hb hc
    go_enter Try.func27, Try.ntmps27
    go_wp2_with ((go_at_call 34; refine (refWidth v.kind _).mono ?_; rw [HW.out]; rintro e w' ⟨rfl, rfl⟩))
    go_ret
    exact ⟨rfl, KA.out⟩
  have fl : ¬ 0 < v.list.length := by omega
  have fl2 : decide (0 < (v.list.length : Int)) = false := by simpa using fl
  have HL := Lib.hid hc
  clear hc
  by_cases hc : v.table.length = 0
  rotate_left
  · have hb : bareP false false false false v.num v.text v.list.length v.table.length = false := by unfold bareP; simp [hc]
    have ft : 0 < v.table.length := by omega
    have ft2 : decide (0 < (v.table.length : Int)) = true := by simpa using ft
    obtain rfl : r = 32 := by rw [HE.out, hb]; simp
    clear HE hb hc
    go_enter Try.func27, Try.ntmps27
    go_wp2_with ((go_at_call 34; refine (refWidth v.kind _).mono ?_; rw [HW.out]; rintro e w' ⟨rfl, rfl⟩))
    go_ret
    exact ⟨rfl, KA.out⟩
  have ft : ¬ 0 < v.table.length := by omega
  have ft2 : decide (0 < (v.table.length : Int)) = false := by simpa using ft
  have HT := Lib.hid hc
  clear hc
  by_cases hc : v.text.toList = []
  rotate_left
  · have hb : bareP false false false false v.num v.text v.list.length v.table.length = false := by unfold bareP; simp [hc]
    have fx : v.text.toList.isEmpty = false := by simpa using hc
    obtain rfl : r = 32 := by rw [HE.out, hb]; simp
    clear HE hb hc
    go_enter Try.func27, Try.ntmps27
    go_wp2_with ((go_at_call 34; refine (refWidth v.kind _).mono ?_; rw [HW.out]; rintro e w' ⟨rfl, rfl⟩))
    go_ret
    exact ⟨rfl, KA.out⟩
  have fx : v.text.toList.isEmpty = true := by simpa using hc
  have fx2 : v.text.size ≤ 65535 := by have := toList_size v.text; rw [hc] at this; simp at this; omega
  have fx3 : decide (65535 < (v.text.size : Int)) = false := by simp; omega
  have HX := Lib.hid hc
  clear hc
  have hb : bareP false false false false v.num v.text v.list.length v.table.length = true := by unfold bareP; simp [HN.out, HL.out, HT.out, HX.out]
  obtain rfl : r = 0 := by rw [HE.out, hb]; rfl
  clear HE hb
  go_enter Try.func27, Try.ntmps27
  go_wp2_with ((go_at_call 34; refine (refWidth v.kind _).mono ?_; rw [HW.out]; rintro e w' ⟨rfl, rfl⟩))
  go_quiet ((fail))
  go_wp2
  go_ret
  exact ⟨rfl, KA.out.drewN _⟩

set_option maxRecDepth 100000 in
set_option maxHeartbeats 3200000 in
theorem wrV_65 (v : FV) (ih : ∀ x ∈ v.list, RWV x) (hk : v.kind = 65) (A B : Option Addr) (c d : Nat) (dp : Int) (F : Nat → Prop) (w : World) (hL : LAt w F A v.list) (hT : TAt w F B v.table) (hf : v.fit c d) (h1 : 1 ≤ dp) (h4 : dp ≤ 4) :
    Calls Try.prog 27 #[.agg #[.int .i64 v.kind, .int .i64 v.num, .string v.text, .slice A v.list.length c, .slice B v.table.length d], .int .i64 dp] w fun e w' => e = .returned (.int .i64 (errV v dp)) ∧ Kept noneS w w' := by
  have HE := Lib.hid ((errV_eq v dp).trans (shape_list hk))
  obtain ⟨r, HR⟩ : ∃ r, Hid (errV v dp = r) := ⟨_, Lib.hid rfl⟩
  rw [HR.out] at HE ⊢
  clear HR
  obtain ⟨⟨_, _⟩, ⟨hn1, hn2⟩, ht, hlc, hcb, htd, hdb, _, _⟩ := hf
  have ka : Kept noneS w (w.alloc (.cells #[.int .i64 v.kind, .int .i64 v.num, .string v.text, .slice A v.list.length c, .slice B v.table.length d] 32)) := (Kept.refl noneS w).alloc _
  have KA := Lib.hid ka
  have HL := Lib.hid (hL.still ka)
  have HT := Lib.hid (hT.still ka)
  clear ka hL hT
  have qe68 : (v.kind == 68) = false := by rw [hk]; rfl
  have qe70 : (v.kind == 70) = false := by rw [hk]; rfl
  have qe116 : (v.kind == 116) = false := by rw [hk]; rfl
  have qn68 : (v.kind != 68) = true := by rw [hk]; rfl
  have qn65 : (v.kind != 65) = false := by rw [hk]; rfl
  have qn70 : (v.kind != 70) = true := by rw [hk]; rfl
  have qn83 : (v.kind != 83) = true := by rw [hk]; rfl
  have qn120 : (v.kind != 120) = true := by rw [hk]; rfl
  have qn116 : (v.kind != 116) = true := by rw [hk]; rfl
  have HW := Lib.hid (show widthP v.kind = 0 by rw [hk]; rfl)
  have IH := Lib.hid ih
  clear ih
  clear hk
  by_cases hc : v.num = 0
  rotate_left
  · have hb : bareP false false true false v.num v.text v.list.length v.table.length = false := by unfold bareP; simp [hc]
    have fn : (v.num != 0) = true := by simpa using hc
    obtain rfl : r = 32 := by rw [HE.out, hb]; simp
    clear HE hb hc
    go_enter Try.func27, Try.ntmps27
    go_wp2_with ((go_at_call 34; refine (refWidth v.kind _).mono ?_; rw [HW.out]; rintro e w' ⟨rfl, rfl⟩))
    go_ret
    exact ⟨rfl, KA.out⟩
  have fn : (v.num != 0) = false := by simpa using hc
  have HN := Lib.hid hc
  clear hc
  by_cases hc : v.table.length = 0
  rotate_left
  · have hb : bareP false false true false v.num v.text v.list.length v.table.length = false := by unfold bareP; simp [hc]
    have ft : 0 < v.table.length := by omega
    have ft2 : decide (0 < (v.table.length : Int)) = true := by simpa using ft
    obtain rfl : r = 32 := by rw [HE.out, hb]; simp
    clear HE hb hc
    go_enter Try.func27, Try.ntmps27
    go_wp2_with ((go_at_call 34; refine (refWidth v.kind _).mono ?_; rw [HW.out]; rintro e w' ⟨rfl, rfl⟩))
    go_ret
    exact ⟨rfl, KA.out⟩
  have ft : ¬ 0 < v.table.length := by omega
  have ft2 : decide (0 < (v.table.length : Int)) = false := by simpa using ft
  have HT := Lib.hid hc
  clear hc
  by_cases hc : v.text.toList = []
  rotate_left
  · have hb : bareP false false true false v.num v.text v.list.length v.table.length = false := by unfold bareP; simp [hc]
    have fx : v.text.toList.isEmpty = false := by simpa using hc
    obtain rfl : r = 32 := by rw [HE.out, hb]; simp
    clear HE hb hc
    go_enter Try.func27, Try.ntmps27
    go_wp2_with ((go_at_call 34; refine (refWidth v.kind _).mono ?_; rw [HW.out]; rintro e w' ⟨rfl, rfl⟩))
    go_ret
    exact ⟨rfl, KA.out⟩
  have fx : v.text.toList.isEmpty = true := by simpa using hc
  have fx2 : v.text.size ≤ 65535 := by have := toList_size v.text; rw [hc] at this; simp at this; omega
  have fx3 : decide (65535 < (v.text.size : Int)) = false := by simp; omega
  have HX := Lib.hid hc
  clear hc
  have hb : bareP false false true false v.num v.text v.list.length v.table.length = true := by unfold bareP; simp [HN.out, HT.out, HX.out]
  have HE' : Hid (r = errL v.list (dp + 1)) := Lib.hid (by rw [HE.out, hb, if_pos rfl])
  clear HE hb
  by_cases hd : 4 < dp + 1
  · obtain rfl : r = 8 := by rw [HE'.out, errL_deep hd]
    clear HE'
    go_enter Try.func27, Try.ntmps27
    go_wp2_with ((go_at_call 34; refine (refWidth v.kind _).mono ?_; rw [HW.out]; rintro e w' ⟨rfl, rfl⟩))
    go_quiet ((fail))
    go_wp2
    go_ret
    exact ⟨rfl, KA.out.drewN _⟩
  by_cases hm : 64 < v.list.length
  · obtain rfl : r = 33 := by rw [HE'.out, errL_many hd hm]
    have hm' : 64 < (v.list.length : Int) := by omega
    clear HE'
    go_enter Try.func27, Try.ntmps27
    go_wp2_with ((go_at_call 34; refine (refWidth v.kind _).mono ?_; rw [HW.out]; rintro e w' ⟨rfl, rfl⟩))
    go_quiet ((fail))
    go_wp2
    go_ret
    exact ⟨rfl, KA.out.drewN _⟩
  have hm' : ¬ 64 < (v.list.length : Int) := by omega
  have BK := Lib.hid (Blk.new w 32 #[.int .i64 v.kind, .int .i64 v.num, .string v.text, .slice A v.list.length c, .slice B v.table.length d])
  go_enter Try.func27, Try.ntmps27
  go_wp2_with ((go_at_call 34; refine (refWidth v.kind _).mono ?_; rw [HW.out]; rintro e w' ⟨rfl, rfl⟩))
  go_quiet ((fail))
  go_wp2
  have BK' := Lib.hid (BK.out.drewN nq)
  have HL' := Lib.hid (HL.out.still ((Kept.refl _ _).drewN nq))
  have KA' := Lib.hid (KA.out.drewN nq)
  clear HT HL BK KA
  generalize (w.alloc (.cells #[.int .i64 v.kind, .int .i64 v.num, .string v.text, .slice A v.list.length c, .slice B v.table.length d] 32)).drewN nq = wb at HL' KA' BK' ⊢
  generalize w.heap.size = bo at BK' ⊢
  go_loopw [6] (fun i wr => ∃ j : Nat, j ≤ v.list.length ∧ i = .int .i64 j ∧ Hid (∀ k (_ : k < j) (hk : k < v.list.length), errV v.list[k] (dp + 1) = 0) ∧ Kept noneS wb wr) (fun i _ => v.list.length - (intOf i).toNat)
  case atStart => exact ⟨0, Nat.zero_le _, rfl, Lib.hid (fun k h => by omega), Kept.refl _ _⟩
  case round =>
    obtain ⟨j, hj, rfl, HN', hk⟩ := hrel
    have KR := Lib.hid hk
    have s3 : wr.cell? ⟨bo, 3, none⟩ = some (.slice A v.list.length c) := (BK'.out.keep hk (fun q => q)).cell 3
    clear hk
    by_cases hlt : j < v.list.length
    · obtain ⟨g, o, B1, c1, B2, c2, rfl, _, hf1, hL1, hT1, d0, d1, d2, d3, d4⟩ := (HL'.out.still KR.out).at_ hlt
      have HI := Lib.hid (IH.out v.list[j] (List.getElem_mem hlt))
      have HF : Hid (errV v.list[j] (dp + 1) ≠ 0 → r = errV v.list[j] (dp + 1)) := Lib.hid (fun q => by rw [HE'.out]; exact errL_at (by omega) (by omega) hlt HN'.out q)
      have HG : Hid (errV v.list[j] (dp + 1) = 0 → ∀ k (_ : k < j + 1) (hk : k < v.list.length), errV v.list[k] (dp + 1) = 0) := Lib.hid (fun q k h a => by
          rcases Nat.lt_or_ge k j with hk | hk
          · exact HN'.out k hk a
          · obtain rfl : k = j := by omega
            exact q)
      generalize v.list[j] = f at *
      have hji : (j : Int) < (v.list.length : Int) := by omega
      have hj0 : (0 : Int) ≤ (j : Int) := by omega
      have HL1 := Lib.hid hL1
      have HT1 := Lib.hid hT1
      have HF1 := Lib.hid hf1
      clear hL1 hT1 hf1
      go_wp2_with fail
      refine (HI.out B1 B2 c1 c2 (dp + 1) F wr HL1.out HT1.out HF1.out (by omega) (by omega)).mono ?_
      rintro e w1 ⟨rfl, k1⟩
      have K1 := Lib.hid k1
      clear k1
      generalize errV f (dp + 1) = ev at HF HG ⊢
      rcases q : (ev != 0) with _ | _
      · have HG' := Lib.hid (HG.out (by simpa using q))
        clear HG HF
        go_wp2
        go_roundw
        case rel => exact ⟨j + 1, by omega, by go_num, HG', KR.out.trans K1.out⟩
        case measure => simp [intOf]; omega
      · obtain rfl : r = ev := HF.out (by simpa using q)
        clear HG HF HE'
        go_wp2
        go_ret
        exact ⟨rfl, (KA'.out.trans KR.out).trans K1.out⟩
    · obtain rfl : j = v.list.length := by omega
      have hr : r = 0 := by rw [HE'.out]; exact errL_none (by omega) (by omega) (fun k hk => HN'.out k hk hk)
      subst hr
      clear HE'
      go_wp2
      go_ret
      exact ⟨rfl, KA'.out.trans KR.out⟩

set_option maxRecDepth 100000 in
set_option maxHeartbeats 3200000 in
theorem wrV_70 (v : FV) (ih : ∀ f ∈ v.table, RWV f.val) (hk : v.kind = 70) (A B : Option Addr) (c d : Nat) (dp : Int) (F : Nat → Prop) (w : World) (hL : LAt w F A v.list) (hT : TAt w F B v.table) (hf : v.fit c d) (h1 : 1 ≤ dp) (h4 : dp ≤ 4) :
    Calls Try.prog 27 #[.agg #[.int .i64 v.kind, .int .i64 v.num, .string v.text, .slice A v.list.length c, .slice B v.table.length d], .int .i64 dp] w fun e w' => e = .returned (.int .i64 (errV v dp)) ∧ Kept noneS w w' := by
  have HE := Lib.hid ((errV_eq v dp).trans (shape_tab hk))
  obtain ⟨r, HR⟩ : ∃ r, Hid (errV v dp = r) := ⟨_, Lib.hid rfl⟩
  rw [HR.out] at HE ⊢
  clear HR
  obtain ⟨⟨_, _⟩, ⟨hn1, hn2⟩, ht, hlc, hcb, htd, hdb, _, _⟩ := hf
  have ka : Kept noneS w (w.alloc (.cells #[.int .i64 v.kind, .int .i64 v.num, .string v.text, .slice A v.list.length c, .slice B v.table.length d] 32)) := (Kept.refl noneS w).alloc _
  have KA := Lib.hid ka
  have HL := Lib.hid (hL.still ka)
  have HT := Lib.hid (hT.still ka)
  clear ka hL hT
  have qe68 : (v.kind == 68) = false := by rw [hk]; rfl
  have qe70 : (v.kind == 70) = true := by rw [hk]; rfl
  have qe116 : (v.kind == 116) = false := by rw [hk]; rfl
  have qn68 : (v.kind != 68) = true := by rw [hk]; rfl
  have qn65 : (v.kind != 65) = true := by rw [hk]; rfl
  have qn70 : (v.kind != 70) = false := by rw [hk]; rfl
  have qn83 : (v.kind != 83) = true := by rw [hk]; rfl
  have qn120 : (v.kind != 120) = true := by rw [hk]; rfl
  have qn116 : (v.kind != 116) = true := by rw [hk]; rfl
  have HW := Lib.hid (show widthP v.kind = 0 by rw [hk]; rfl)
  have IH := Lib.hid ih
  clear ih
  clear hk
  by_cases hc : v.num = 0
  rotate_left
  · have hb : bareP false false false true v.num v.text v.list.length v.table.length = false := by unfold bareP; simp [hc]
    have fn : (v.num != 0) = true := by simpa using hc
    obtain rfl : r = 32 := by rw [HE.out, hb]; simp
    clear HE hb hc
    go_enter Try.func27, Try.ntmps27
    go_wp2_with ((go_at_call 34; refine (refWidth v.kind _).mono ?_; rw [HW.out]; rintro e w' ⟨rfl, rfl⟩))
    go_ret
    exact ⟨rfl, KA.out⟩
  have fn : (v.num != 0) = false := by simpa using hc
  have HN := Lib.hid hc
  clear hc
  by_cases hc : v.list.length = 0
  rotate_left
  · have hb : bareP false false false true v.num v.text v.list.length v.table.length = false := by unfold bareP; simp [hc]
    have fl : 0 < v.list.length := by omega
    have fl2 : decide (0 < (v.list.length : Int)) = true := by simpa using fl
    obtain rfl : r = 32 := by rw [HE.out, hb]; simp
    clear HE hb hc
    go_enter Try.func27, Try.ntmps27
    go_wp2_with ((go_at_call 34; refine (refWidth v.kind _).mono ?_; rw [HW.out]; rintro e w' ⟨rfl, rfl⟩))
    go_ret
    exact ⟨rfl, KA.out⟩
  have fl : ¬ 0 < v.list.length := by omega
  have fl2 : decide (0 < (v.list.length : Int)) = false := by simpa using fl
  have HL := Lib.hid hc
  clear hc
  by_cases hc : v.text.toList = []
  rotate_left
  · have hb : bareP false false false true v.num v.text v.list.length v.table.length = false := by unfold bareP; simp [hc]
    have fx : v.text.toList.isEmpty = false := by simpa using hc
    obtain rfl : r = 32 := by rw [HE.out, hb]; simp
    clear HE hb hc
    go_enter Try.func27, Try.ntmps27
    go_wp2_with ((go_at_call 34; refine (refWidth v.kind _).mono ?_; rw [HW.out]; rintro e w' ⟨rfl, rfl⟩))
    go_ret
    exact ⟨rfl, KA.out⟩
  have fx : v.text.toList.isEmpty = true := by simpa using hc
  have fx2 : v.text.size ≤ 65535 := by have := toList_size v.text; rw [hc] at this; simp at this; omega
  have fx3 : decide (65535 < (v.text.size : Int)) = false := by simp; omega
  have HX := Lib.hid hc
  clear hc
  have hb : bareP false false false true v.num v.text v.list.length v.table.length = true := by unfold bareP; simp [HN.out, HL.out, HX.out]
  have HE' : Hid (r = errT v.table (dp + 1)) := Lib.hid (by rw [HE.out, hb, if_pos rfl])
  clear HE hb
  go_enter Try.func27, Try.ntmps27
  go_wp2_with ((go_at_call 34; refine (refWidth v.kind _).mono ?_; rw [HW.out]; rintro e w' ⟨rfl, rfl⟩))
  go_quiet ((fail))
  go_wp2_with fail
  refine (wrT v.table IH.out B d (dp + 1) F _ (HT.out.still ((Kept.refl _ _).drewN _)) (by omega) (by omega) (by omega)).mono ?_
  rw [← HE'.out]
  rintro e w1 ⟨rfl, k1⟩
  have K1 := Lib.hid (((Kept.refl noneS _).drewN _).trans k1)
  clear k1
  go_wp2
  go_ret
  exact ⟨rfl, KA.out.trans K1.out⟩

set_option maxRecDepth 100000 in
set_option maxHeartbeats 3200000 in
theorem wrV_none (v : FV) (hk : noKind v.kind) (A B : Option Addr) (c d : Nat) (dp : Int) (F : Nat → Prop) (w : World) (hL : LAt w F A v.list) (hT : TAt w F B v.table) (hf : v.fit c d) (_h1 : 1 ≤ dp) (_h4 : dp ≤ 4) :
    Calls Try.prog 27 #[.agg #[.int .i64 v.kind, .int .i64 v.num, .string v.text, .slice A v.list.length c, .slice B v.table.length d], .int .i64 dp] w fun e w' => e = .returned (.int .i64 (errV v dp)) ∧ Kept noneS w w' := by
  have HE := Lib.hid ((errV_eq v dp).trans (shape_none hk))
  obtain ⟨r, HR⟩ : ∃ r, Hid (errV v dp = r) := ⟨_, Lib.hid rfl⟩
  rw [HR.out] at HE ⊢
  clear HR
  obtain ⟨⟨_, _⟩, ⟨hn1, hn2⟩, ht, hlc, hcb, htd, hdb, _, _⟩ := hf
  have ka : Kept noneS w (w.alloc (.cells #[.int .i64 v.kind, .int .i64 v.num, .string v.text, .slice A v.list.length c, .slice B v.table.length d] 32)) := (Kept.refl noneS w).alloc _
  have KA := Lib.hid ka
  have HL := Lib.hid (hL.still ka)
  have HT := Lib.hid (hT.still ka)
  clear ka hL hT
  have HW := Lib.hid (show widthP v.kind = -1 by unfold noKind at hk; unfold widthP; rw [if_neg (by omega), if_neg (by omega), if_neg (by omega), if_neg (by omega), if_neg (by omega)])
  clear hk
  obtain rfl : r = 30 := HE.out
  clear HE
  go_enter Try.func27, Try.ntmps27
  go_wp2_with ((go_at_call 34; refine (refWidth v.kind _).mono ?_; rw [HW.out]; rintro e w' ⟨rfl, rfl⟩))
  go_ret
  exact ⟨rfl, KA.out⟩

end Go.Proofs.Ytdhaojicphhikaa
