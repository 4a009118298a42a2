/-
  ftable.checkValue, and Check at every table (printed by gencv.py).
-/
import Derived.Test.YtdhaojicphhikaaTCheckT
import Derived.Test.YtdhaojicphhikaaTSameP
namespace Go.Proofs.Ytdhaojicphhikaa
open Go.RowKit

section
variable {k n : Int} {t : ByteArray} {ll tl : Nat} {le te : Int}
theorem shape_num (hk : numK k = true) : shapeE k n t ll tl le te = if (fitB k n && bareP true false false false n t ll tl) = true then 0 else 32 := by
  unfold shapeE bareP
  rw [if_pos hk]
  simp
theorem shape_dec (hk : k = 68) : shapeE k n t ll tl le te = if (fitB k n && (decide (t.size = 1) && bareP true true false false n t ll tl)) = true then 0 else 32 := by
  subst hk
  unfold shapeE bareP
  rw [if_neg (by decide), if_pos rfl, toList_size]
  simp
theorem shape_txt (hk : k = 83 ∨ k = 120) : shapeE k n t ll tl le te = if bareP false true false false n t ll tl = true then (if 65535 < t.size then 1 else 0) else 32 := by
  unfold shapeE bareP
  rw [if_neg (by rcases hk with rfl | rfl <;> decide), if_neg (by omega), if_pos hk, toList_size]
  simp
theorem shape_void (hk : k = 86) : shapeE k n t ll tl le te = if bareP false false false false n t ll tl = true then 0 else 32 := by
  subst hk
  unfold shapeE bareP
  rw [if_neg (by decide), if_neg (by decide), if_neg (by decide), if_pos rfl]
  simp
theorem shape_list (hk : k = 65) : shapeE k n t ll tl le te = if bareP false false true false n t ll tl = true then le else 32 := by
  subst hk
  unfold shapeE bareP
  rw [if_neg (by decide), if_neg (by decide), if_neg (by decide), if_neg (by decide), if_pos rfl]
  simp
theorem shape_tab (hk : k = 70) : shapeE k n t ll tl le te = if bareP false false false true n t ll tl = true then te else 32 := by
  subst hk
  unfold shapeE bareP
  rw [if_neg (by decide), if_neg (by decide), if_neg (by decide), if_neg (by decide), if_neg (by decide), if_pos rfl]
  simp
theorem shape_none (hk : noKind k) : shapeE k n t ll tl le te = 30 := by
  unfold noKind at hk
  unfold shapeE numK
  rw [if_neg (by simp; omega), if_neg (by omega), if_neg (by omega), if_neg (by omega), if_neg (by omega), if_neg (by omega)]
end

set_option maxHeartbeats 3200000 in
theorem ckV_116 (v : FV) (hk : v.kind = 116) (A B : Option Addr) (c d : Nat) (dp : Int) (F : Nat → Prop) (w : World) (hL : LAt w F A v.list) (hT : TAt w F B v.table) (hf : v.fit c d) (_h1 : 1 ≤ dp) (_h4 : dp ≤ 4) :
    Calls Try.prog 26 #[.agg #[.int .i64 v.kind, .int .i64 v.num, .string v.text, .slice A v.list.length c, .slice B v.table.length d], .int .i64 dp] w fun e w' => e = .returned (.int .i64 (errV v dp)) ∧ Kept noneS w w' := by
  have HE := Lib.hid ((errV_eq v dp).trans (shape_num (by rw [hk]; rfl)))
  obtain ⟨r, HR⟩ : ∃ r, Hid (errV v dp = r) := ⟨_, Lib.hid rfl⟩
  rw [HR.out] at HE ⊢
  clear HR
  obtain ⟨⟨_, _⟩, ⟨hn1, hn2⟩, ht, hlc, hcb, htd, hdb, _, _⟩ := hf
  have HB := Lib.hid (Blk.new w 32 #[.int .i64 v.kind, .int .i64 v.num, .string v.text, .slice A v.list.length c, .slice B v.table.length d])
  have ka : Kept noneS w (w.alloc (.cells #[.int .i64 v.kind, .int .i64 v.num, .string v.text, .slice A v.list.length c, .slice B v.table.length d] 32)) := (Kept.refl noneS w).alloc _
  have KA := Lib.hid ka
  have HL := Lib.hid (hL.still ka)
  have HT := Lib.hid (hT.still ka)
  clear ka hL hT
  have q116 : (v.kind == 116) = true := by rw [hk]; rfl
  have HK := Lib.hid (show numK v.kind = true ∨ v.kind = 68 from .inl (by rw [hk]; rfl))
  clear hk
  rcases hfit : fitB v.kind v.num with _ | _
  · obtain rfl : r = 32 := by rw [HE.out, hfit]; rfl
    clear HE
    go_enter Try.func26, Try.ntmps26
    go_wp2_with ((go_at_call 32; refine (ftFits v.kind v.num _ HK.out hn1 hn2).mono ?_; rw [hfit]; rintro e w' ⟨rfl, rfl⟩))
    go_ret
    exact ⟨rfl, KA.out⟩
  rcases hbr : bareP true false false false v.num v.text v.list.length v.table.length with _ | _
  · obtain rfl : r = 32 := by rw [HE.out, hfit, hbr]; rfl
    clear HE
    go_enter Try.func26, Try.ntmps26
    go_wp2_with (first | (go_at_call 32; refine (ftFits v.kind v.num _ HK.out hn1 hn2).mono ?_; rw [hfit]; rintro e w' ⟨rfl, rfl⟩) | (go_at_call 31; refine (bare _ _ _ _ _ v.kind v.num v.text A B v.list.length c v.table.length d _ HB.out (by omega) (by omega)).mono ?_; rw [hbr]; rintro e w' ⟨rfl, rfl⟩))
    go_ret
    exact ⟨rfl, KA.out⟩
  · obtain rfl : r = 0 := by rw [HE.out, hfit, hbr]; rfl
    clear HE
    go_enter Try.func26, Try.ntmps26
    go_wp2_with (first | (go_at_call 32; refine (ftFits v.kind v.num _ HK.out hn1 hn2).mono ?_; rw [hfit]; rintro e w' ⟨rfl, rfl⟩) | (go_at_call 31; refine (bare _ _ _ _ _ v.kind v.num v.text A B v.list.length c v.table.length d _ HB.out (by omega) (by omega)).mono ?_; rw [hbr]; rintro e w' ⟨rfl, rfl⟩))
    go_ret
    exact ⟨rfl, KA.out⟩

set_option maxHeartbeats 3200000 in
theorem ckV_98 (v : FV) (hk : v.kind = 98) (A B : Option Addr) (c d : Nat) (dp : Int) (F : Nat → Prop) (w : World) (hL : LAt w F A v.list) (hT : TAt w F B v.table) (hf : v.fit c d) (_h1 : 1 ≤ dp) (_h4 : dp ≤ 4) :
    Calls Try.prog 26 #[.agg #[.int .i64 v.kind, .int .i64 v.num, .string v.text, .slice A v.list.length c, .slice B v.table.length d], .int .i64 dp] w fun e w' => e = .returned (.int .i64 (errV v dp)) ∧ Kept noneS w w' := by
  have HE := Lib.hid ((errV_eq v dp).trans (shape_num (by rw [hk]; rfl)))
  obtain ⟨r, HR⟩ : ∃ r, Hid (errV v dp = r) := ⟨_, Lib.hid rfl⟩
  rw [HR.out] at HE ⊢
  clear HR
  obtain ⟨⟨_, _⟩, ⟨hn1, hn2⟩, ht, hlc, hcb, htd, hdb, _, _⟩ := hf
  have HB := Lib.hid (Blk.new w 32 #[.int .i64 v.kind, .int .i64 v.num, .string v.text, .slice A v.list.length c, .slice B v.table.length d])
  have ka : Kept noneS w (w.alloc (.cells #[.int .i64 v.kind, .int .i64 v.num, .string v.text, .slice A v.list.length c, .slice B v.table.length d] 32)) := (Kept.refl noneS w).alloc _
  have KA := Lib.hid ka
  have HL := Lib.hid (hL.still ka)
  have HT := Lib.hid (hT.still ka)
  clear ka hL hT
  have q116 : (v.kind == 116) = false := by rw [hk]; rfl
  have q98 : (v.kind == 98) = true := by rw [hk]; rfl
  have HK := Lib.hid (show numK v.kind = true ∨ v.kind = 68 from .inl (by rw [hk]; rfl))
  clear hk
  rcases hfit : fitB v.kind v.num with _ | _
  · obtain rfl : r = 32 := by rw [HE.out, hfit]; rfl
    clear HE
    go_enter Try.func26, Try.ntmps26
    go_wp2_with ((go_at_call 32; refine (ftFits v.kind v.num _ HK.out hn1 hn2).mono ?_; rw [hfit]; rintro e w' ⟨rfl, rfl⟩))
    go_ret
    exact ⟨rfl, KA.out⟩
  rcases hbr : bareP true false false false v.num v.text v.list.length v.table.length with _ | _
  · obtain rfl : r = 32 := by rw [HE.out, hfit, hbr]; rfl
    clear HE
    go_enter Try.func26, Try.ntmps26
    go_wp2_with (first | (go_at_call 32; refine (ftFits v.kind v.num _ HK.out hn1 hn2).mono ?_; rw [hfit]; rintro e w' ⟨rfl, rfl⟩) | (go_at_call 31; refine (bare _ _ _ _ _ v.kind v.num v.text A B v.list.length c v.table.length d _ HB.out (by omega) (by omega)).mono ?_; rw [hbr]; rintro e w' ⟨rfl, rfl⟩))
    go_ret
    exact ⟨rfl, KA.out⟩
  · obtain rfl : r = 0 := by rw [HE.out, hfit, hbr]; rfl
    clear HE
    go_enter Try.func26, Try.ntmps26
    go_wp2_with (first | (go_at_call 32; refine (ftFits v.kind v.num _ HK.out hn1 hn2).mono ?_; rw [hfit]; rintro e w' ⟨rfl, rfl⟩) | (go_at_call 31; refine (bare _ _ _ _ _ v.kind v.num v.text A B v.list.length c v.table.length d _ HB.out (by omega) (by omega)).mono ?_; rw [hbr]; rintro e w' ⟨rfl, rfl⟩))
    go_ret
    exact ⟨rfl, KA.out⟩

set_option maxHeartbeats 3200000 in
theorem ckV_115 (v : FV) (hk : v.kind = 115) (A B : Option Addr) (c d : Nat) (dp : Int) (F : Nat → Prop) (w : World) (hL : LAt w F A v.list) (hT : TAt w F B v.table) (hf : v.fit c d) (_h1 : 1 ≤ dp) (_h4 : dp ≤ 4) :
    Calls Try.prog 26 #[.agg #[.int .i64 v.kind, .int .i64 v.num, .string v.text, .slice A v.list.length c, .slice B v.table.length d], .int .i64 dp] w fun e w' => e = .returned (.int .i64 (errV v dp)) ∧ Kept noneS w w' := by
  have HE := Lib.hid ((errV_eq v dp).trans (shape_num (by rw [hk]; rfl)))
  obtain ⟨r, HR⟩ : ∃ r, Hid (errV v dp = r) := ⟨_, Lib.hid rfl⟩
  rw [HR.out] at HE ⊢
  clear HR
  obtain ⟨⟨_, _⟩, ⟨hn1, hn2⟩, ht, hlc, hcb, htd, hdb, _, _⟩ := hf
  have HB := Lib.hid (Blk.new w 32 #[.int .i64 v.kind, .int .i64 v.num, .string v.text, .slice A v.list.length c, .slice B v.table.length d])
  have ka : Kept noneS w (w.alloc (.cells #[.int .i64 v.kind, .int .i64 v.num, .string v.text, .slice A v.list.length c, .slice B v.table.length d] 32)) := (Kept.refl noneS w).alloc _
  have KA := Lib.hid ka
  have HL := Lib.hid (hL.still ka)
  have HT := Lib.hid (hT.still ka)
  clear ka hL hT
  have q116 : (v.kind == 116) = false := by rw [hk]; rfl
  have q98 : (v.kind == 98) = false := by rw [hk]; rfl
  have q115 : (v.kind == 115) = true := by rw [hk]; rfl
  have HK := Lib.hid (show numK v.kind = true ∨ v.kind = 68 from .inl (by rw [hk]; rfl))
  clear hk
  rcases hfit : fitB v.kind v.num with _ | _
  · obtain rfl : r = 32 := by rw [HE.out, hfit]; rfl
    clear HE
    go_enter Try.func26, Try.ntmps26
    go_wp2_with ((go_at_call 32; refine (ftFits v.kind v.num _ HK.out hn1 hn2).mono ?_; rw [hfit]; rintro e w' ⟨rfl, rfl⟩))
    go_ret
    exact ⟨rfl, KA.out⟩
  rcases hbr : bareP true false false false v.num v.text v.list.length v.table.length with _ | _
  · obtain rfl : r = 32 := by rw [HE.out, hfit, hbr]; rfl
    clear HE
    go_enter Try.func26, Try.ntmps26
    go_wp2_with (first | (go_at_call 32; refine (ftFits v.kind v.num _ HK.out hn1 hn2).mono ?_; rw [hfit]; rintro e w' ⟨rfl, rfl⟩) | (go_at_call 31; refine (bare _ _ _ _ _ v.kind v.num v.text A B v.list.length c v.table.length d _ HB.out (by omega) (by omega)).mono ?_; rw [hbr]; rintro e w' ⟨rfl, rfl⟩))
    go_ret
    exact ⟨rfl, KA.out⟩
  · obtain rfl : r = 0 := by rw [HE.out, hfit, hbr]; rfl
    clear HE
    go_enter Try.func26, Try.ntmps26
    go_wp2_with (first | (go_at_call 32; refine (ftFits v.kind v.num _ HK.out hn1 hn2).mono ?_; rw [hfit]; rintro e w' ⟨rfl, rfl⟩) | (go_at_call 31; refine (bare _ _ _ _ _ v.kind v.num v.text A B v.list.length c v.table.length d _ HB.out (by omega) (by omega)).mono ?_; rw [hbr]; rintro e w' ⟨rfl, rfl⟩))
    go_ret
    exact ⟨rfl, KA.out⟩

set_option maxHeartbeats 3200000 in
theorem ckV_73 (v : FV) (hk : v.kind = 73) (A B : Option Addr) (c d : Nat) (dp : Int) (F : Nat → Prop) (w : World) (hL : LAt w F A v.list) (hT : TAt w F B v.table) (hf : v.fit c d) (_h1 : 1 ≤ dp) (_h4 : dp ≤ 4) :
    Calls Try.prog 26 #[.agg #[.int .i64 v.kind, .int .i64 v.num, .string v.text, .slice A v.list.length c, .slice B v.table.length d], .int .i64 dp] w fun e w' => e = .returned (.int .i64 (errV v dp)) ∧ Kept noneS w w' := by
  have HE := Lib.hid ((errV_eq v dp).trans (shape_num (by rw [hk]; rfl)))
  obtain ⟨r, HR⟩ : ∃ r, Hid (errV v dp = r) := ⟨_, Lib.hid rfl⟩
  rw [HR.out] at HE ⊢
  clear HR
  obtain ⟨⟨_, _⟩, ⟨hn1, hn2⟩, ht, hlc, hcb, htd, hdb, _, _⟩ := hf
  have HB := Lib.hid (Blk.new w 32 #[.int .i64 v.kind, .int .i64 v.num, .string v.text, .slice A v.list.length c, .slice B v.table.length d])
  have ka : Kept noneS w (w.alloc (.cells #[.int .i64 v.kind, .int .i64 v.num, .string v.text, .slice A v.list.length c, .slice B v.table.length d] 32)) := (Kept.refl noneS w).alloc _
  have KA := Lib.hid ka
  have HL := Lib.hid (hL.still ka)
  have HT := Lib.hid (hT.still ka)
  clear ka hL hT
  have q116 : (v.kind == 116) = false := by rw [hk]; rfl
  have q98 : (v.kind == 98) = false := by rw [hk]; rfl
  have q115 : (v.kind == 115) = false := by rw [hk]; rfl
  have q73 : (v.kind == 73) = true := by rw [hk]; rfl
  have HK := Lib.hid (show numK v.kind = true ∨ v.kind = 68 from .inl (by rw [hk]; rfl))
  clear hk
  rcases hfit : fitB v.kind v.num with _ | _
  · obtain rfl : r = 32 := by rw [HE.out, hfit]; rfl
    clear HE
    go_enter Try.func26, Try.ntmps26
    go_wp2_with ((go_at_call 32; refine (ftFits v.kind v.num _ HK.out hn1 hn2).mono ?_; rw [hfit]; rintro e w' ⟨rfl, rfl⟩))
    go_ret
    exact ⟨rfl, KA.out⟩
  rcases hbr : bareP true false false false v.num v.text v.list.length v.table.length with _ | _
  · obtain rfl : r = 32 := by rw [HE.out, hfit, hbr]; rfl
    clear HE
    go_enter Try.func26, Try.ntmps26
    go_wp2_with (first | (go_at_call 32; refine (ftFits v.kind v.num _ HK.out hn1 hn2).mono ?_; rw [hfit]; rintro e w' ⟨rfl, rfl⟩) | (go_at_call 31; refine (bare _ _ _ _ _ v.kind v.num v.text A B v.list.length c v.table.length d _ HB.out (by omega) (by omega)).mono ?_; rw [hbr]; rintro e w' ⟨rfl, rfl⟩))
    go_ret
    exact ⟨rfl, KA.out⟩
  · obtain rfl : r = 0 := by rw [HE.out, hfit, hbr]; rfl
    clear HE
    go_enter Try.func26, Try.ntmps26
    go_wp2_with (first | (go_at_call 32; refine (ftFits v.kind v.num _ HK.out hn1 hn2).mono ?_; rw [hfit]; rintro e w' ⟨rfl, rfl⟩) | (go_at_call 31; refine (bare _ _ _ _ _ v.kind v.num v.text A B v.list.length c v.table.length d _ HB.out (by omega) (by omega)).mono ?_; rw [hbr]; rintro e w' ⟨rfl, rfl⟩))
    go_ret
    exact ⟨rfl, KA.out⟩

set_option maxHeartbeats 3200000 in
theorem ckV_108 (v : FV) (hk : v.kind = 108) (A B : Option Addr) (c d : Nat) (dp : Int) (F : Nat → Prop) (w : World) (hL : LAt w F A v.list) (hT : TAt w F B v.table) (hf : v.fit c d) (_h1 : 1 ≤ dp) (_h4 : dp ≤ 4) :
    Calls Try.prog 26 #[.agg #[.int .i64 v.kind, .int .i64 v.num, .string v.text, .slice A v.list.length c, .slice B v.table.length d], .int .i64 dp] w fun e w' => e = .returned (.int .i64 (errV v dp)) ∧ Kept noneS w w' := by
  have HE := Lib.hid ((errV_eq v dp).trans (shape_num (by rw [hk]; rfl)))
  obtain ⟨r, HR⟩ : ∃ r, Hid (errV v dp = r) := ⟨_, Lib.hid rfl⟩
  rw [HR.out] at HE ⊢
  clear HR
  obtain ⟨⟨_, _⟩, ⟨hn1, hn2⟩, ht, hlc, hcb, htd, hdb, _, _⟩ := hf
  have HB := Lib.hid (Blk.new w 32 #[.int .i64 v.kind, .int .i64 v.num, .string v.text, .slice A v.list.length c, .slice B v.table.length d])
  have ka : Kept noneS w (w.alloc (.cells #[.int .i64 v.kind, .int .i64 v.num, .string v.text, .slice A v.list.length c, .slice B v.table.length d] 32)) := (Kept.refl noneS w).alloc _
  have KA := Lib.hid ka
  have HL := Lib.hid (hL.still ka)
  have HT := Lib.hid (hT.still ka)
  clear ka hL hT
  have q116 : (v.kind == 116) = false := by rw [hk]; rfl
  have q98 : (v.kind == 98) = false := by rw [hk]; rfl
  have q115 : (v.kind == 115) = false := by rw [hk]; rfl
  have q73 : (v.kind == 73) = false := by rw [hk]; rfl
  have q108 : (v.kind == 108) = true := by rw [hk]; rfl
  have HK := Lib.hid (show numK v.kind = true ∨ v.kind = 68 from .inl (by rw [hk]; rfl))
  clear hk
  rcases hfit : fitB v.kind v.num with _ | _
  · obtain rfl : r = 32 := by rw [HE.out, hfit]; rfl
    clear HE
    go_enter Try.func26, Try.ntmps26
    go_wp2_with ((go_at_call 32; refine (ftFits v.kind v.num _ HK.out hn1 hn2).mono ?_; rw [hfit]; rintro e w' ⟨rfl, rfl⟩))
    go_ret
    exact ⟨rfl, KA.out⟩
  rcases hbr : bareP true false false false v.num v.text v.list.length v.table.length with _ | _
  · obtain rfl : r = 32 := by rw [HE.out, hfit, hbr]; rfl
    clear HE
    go_enter Try.func26, Try.ntmps26
    go_wp2_with (first | (go_at_call 32; refine (ftFits v.kind v.num _ HK.out hn1 hn2).mono ?_; rw [hfit]; rintro e w' ⟨rfl, rfl⟩) | (go_at_call 31; refine (bare _ _ _ _ _ v.kind v.num v.text A B v.list.length c v.table.length d _ HB.out (by omega) (by omega)).mono ?_; rw [hbr]; rintro e w' ⟨rfl, rfl⟩))
    go_ret
    exact ⟨rfl, KA.out⟩
  · obtain rfl : r = 0 := by rw [HE.out, hfit, hbr]; rfl
    clear HE
    go_enter Try.func26, Try.ntmps26
    go_wp2_with (first | (go_at_call 32; refine (ftFits v.kind v.num _ HK.out hn1 hn2).mono ?_; rw [hfit]; rintro e w' ⟨rfl, rfl⟩) | (go_at_call 31; refine (bare _ _ _ _ _ v.kind v.num v.text A B v.list.length c v.table.length d _ HB.out (by omega) (by omega)).mono ?_; rw [hbr]; rintro e w' ⟨rfl, rfl⟩))
    go_ret
    exact ⟨rfl, KA.out⟩

set_option maxHeartbeats 3200000 in
theorem ckV_100 (v : FV) (hk : v.kind = 100) (A B : Option Addr) (c d : Nat) (dp : Int) (F : Nat → Prop) (w : World) (hL : LAt w F A v.list) (hT : TAt w F B v.table) (hf : v.fit c d) (_h1 : 1 ≤ dp) (_h4 : dp ≤ 4) :
    Calls Try.prog 26 #[.agg #[.int .i64 v.kind, .int .i64 v.num, .string v.text, .slice A v.list.length c, .slice B v.table.length d], .int .i64 dp] w fun e w' => e = .returned (.int .i64 (errV v dp)) ∧ Kept noneS w w' := by
  have HE := Lib.hid ((errV_eq v dp).trans (shape_num (by rw [hk]; rfl)))
  obtain ⟨r, HR⟩ : ∃ r, Hid (errV v dp = r) := ⟨_, Lib.hid rfl⟩
  rw [HR.out] at HE ⊢
  clear HR
  obtain ⟨⟨_, _⟩, ⟨hn1, hn2⟩, ht, hlc, hcb, htd, hdb, _, _⟩ := hf
  have HB := Lib.hid (Blk.new w 32 #[.int .i64 v.kind, .int .i64 v.num, .string v.text, .slice A v.list.length c, .slice B v.table.length d])
  have ka : Kept noneS w (w.alloc (.cells #[.int .i64 v.kind, .int .i64 v.num, .string v.text, .slice A v.list.length c, .slice B v.table.length d] 32)) := (Kept.refl noneS w).alloc _
  have KA := Lib.hid ka
  have HL := Lib.hid (hL.still ka)
  have HT := Lib.hid (hT.still ka)
  clear ka hL hT
  have q116 : (v.kind == 116) = false := by rw [hk]; rfl
  have q98 : (v.kind == 98) = false := by rw [hk]; rfl
  have q115 : (v.kind == 115) = false := by rw [hk]; rfl
  have q73 : (v.kind == 73) = false := by rw [hk]; rfl
  have q108 : (v.kind == 108) = false := by rw [hk]; rfl
  have q100 : (v.kind == 100) = true := by rw [hk]; rfl
  have HK := Lib.hid (show numK v.kind = true ∨ v.kind = 68 from .inl (by rw [hk]; rfl))
  clear hk
  rcases hfit : fitB v.kind v.num with _ | _
  · obtain rfl : r = 32 := by rw [HE.out, hfit]; rfl
    clear HE
    go_enter Try.func26, Try.ntmps26
    go_wp2_with ((go_at_call 32; refine (ftFits v.kind v.num _ HK.out hn1 hn2).mono ?_; rw [hfit]; rintro e w' ⟨rfl, rfl⟩))
    go_ret
    exact ⟨rfl, KA.out⟩
  rcases hbr : bareP true false false false v.num v.text v.list.length v.table.length with _ | _
  · obtain rfl : r = 32 := by rw [HE.out, hfit, hbr]; rfl
    clear HE
    go_enter Try.func26, Try.ntmps26
    go_wp2_with (first | (go_at_call 32; refine (ftFits v.kind v.num _ HK.out hn1 hn2).mono ?_; rw [hfit]; rintro e w' ⟨rfl, rfl⟩) | (go_at_call 31; refine (bare _ _ _ _ _ v.kind v.num v.text A B v.list.length c v.table.length d _ HB.out (by omega) (by omega)).mono ?_; rw [hbr]; rintro e w' ⟨rfl, rfl⟩))
    go_ret
    exact ⟨rfl, KA.out⟩
  · obtain rfl : r = 0 := by rw [HE.out, hfit, hbr]; rfl
    clear HE
    go_enter Try.func26, Try.ntmps26
    go_wp2_with (first | (go_at_call 32; refine (ftFits v.kind v.num _ HK.out hn1 hn2).mono ?_; rw [hfit]; rintro e w' ⟨rfl, rfl⟩) | (go_at_call 31; refine (bare _ _ _ _ _ v.kind v.num v.text A B v.list.length c v.table.length d _ HB.out (by omega) (by omega)).mono ?_; rw [hbr]; rintro e w' ⟨rfl, rfl⟩))
    go_ret
    exact ⟨rfl, KA.out⟩

set_option maxHeartbeats 3200000 in
theorem ckV_84 (v : FV) (hk : v.kind = 84) (A B : Option Addr) (c d : Nat) (dp : Int) (F : Nat → Prop) (w : World) (hL : LAt w F A v.list) (hT : TAt w F B v.table) (hf : v.fit c d) (_h1 : 1 ≤ dp) (_h4 : dp ≤ 4) :
    Calls Try.prog 26 #[.agg #[.int .i64 v.kind, .int .i64 v.num, .string v.text, .slice A v.list.length c, .slice B v.table.length d], .int .i64 dp] w fun e w' => e = .returned (.int .i64 (errV v dp)) ∧ Kept noneS w w' := by
  have HE := Lib.hid ((errV_eq v dp).trans (shape_num (by rw [hk]; rfl)))
  obtain ⟨r, HR⟩ : ∃ r, Hid (errV v dp = r) := ⟨_, Lib.hid rfl⟩
  rw [HR.out] at HE ⊢
  clear HR
  obtain ⟨⟨_, _⟩, ⟨hn1, hn2⟩, ht, hlc, hcb, htd, hdb, _, _⟩ := hf
  have HB := Lib.hid (Blk.new w 32 #[.int .i64 v.kind, .int .i64 v.num, .string v.text, .slice A v.list.length c, .slice B v.table.length d])
  have ka : Kept noneS w (w.alloc (.cells #[.int .i64 v.kind, .int .i64 v.num, .string v.text, .slice A v.list.length c, .slice B v.table.length d] 32)) := (Kept.refl noneS w).alloc _
  have KA := Lib.hid ka
  have HL := Lib.hid (hL.still ka)
  have HT := Lib.hid (hT.still ka)
  clear ka hL hT
  have q116 : (v.kind == 116) = false := by rw [hk]; rfl
  have q98 : (v.kind == 98) = false := by rw [hk]; rfl
  have q115 : (v.kind == 115) = false := by rw [hk]; rfl
  have q73 : (v.kind == 73) = false := by rw [hk]; rfl
  have q108 : (v.kind == 108) = false := by rw [hk]; rfl
  have q100 : (v.kind == 100) = false := by rw [hk]; rfl
  have q84 : (v.kind == 84) = true := by rw [hk]; rfl
  have HK := Lib.hid (show numK v.kind = true ∨ v.kind = 68 from .inl (by rw [hk]; rfl))
  clear hk
  rcases hfit : fitB v.kind v.num with _ | _
  · obtain rfl : r = 32 := by rw [HE.out, hfit]; rfl
    clear HE
    go_enter Try.func26, Try.ntmps26
    go_wp2_with ((go_at_call 32; refine (ftFits v.kind v.num _ HK.out hn1 hn2).mono ?_; rw [hfit]; rintro e w' ⟨rfl, rfl⟩))
    go_ret
    exact ⟨rfl, KA.out⟩
  rcases hbr : bareP true false false false v.num v.text v.list.length v.table.length with _ | _
  · obtain rfl : r = 32 := by rw [HE.out, hfit, hbr]; rfl
    clear HE
    go_enter Try.func26, Try.ntmps26
    go_wp2_with (first | (go_at_call 32; refine (ftFits v.kind v.num _ HK.out hn1 hn2).mono ?_; rw [hfit]; rintro e w' ⟨rfl, rfl⟩) | (go_at_call 31; refine (bare _ _ _ _ _ v.kind v.num v.text A B v.list.length c v.table.length d _ HB.out (by omega) (by omega)).mono ?_; rw [hbr]; rintro e w' ⟨rfl, rfl⟩))
    go_ret
    exact ⟨rfl, KA.out⟩
  · obtain rfl : r = 0 := by rw [HE.out, hfit, hbr]; rfl
    clear HE
    go_enter Try.func26, Try.ntmps26
    go_wp2_with (first | (go_at_call 32; refine (ftFits v.kind v.num _ HK.out hn1 hn2).mono ?_; rw [hfit]; rintro e w' ⟨rfl, rfl⟩) | (go_at_call 31; refine (bare _ _ _ _ _ v.kind v.num v.text A B v.list.length c v.table.length d _ HB.out (by omega) (by omega)).mono ?_; rw [hbr]; rintro e w' ⟨rfl, rfl⟩))
    go_ret
    exact ⟨rfl, KA.out⟩

set_option maxHeartbeats 3200000 in
theorem ckV_68 (v : FV) (hk : v.kind = 68) (A B : Option Addr) (c d : Nat) (dp : Int) (F : Nat → Prop) (w : World) (hL : LAt w F A v.list) (hT : TAt w F B v.table) (hf : v.fit c d) (_h1 : 1 ≤ dp) (_h4 : dp ≤ 4) :
    Calls Try.prog 26 #[.agg #[.int .i64 v.kind, .int .i64 v.num, .string v.text, .slice A v.list.length c, .slice B v.table.length d], .int .i64 dp] w fun e w' => e = .returned (.int .i64 (errV v dp)) ∧ Kept noneS w w' := by
  have HE := Lib.hid ((errV_eq v dp).trans (shape_dec hk))
  obtain ⟨r, HR⟩ : ∃ r, Hid (errV v dp = r) := ⟨_, Lib.hid rfl⟩
  rw [HR.out] at HE ⊢
  clear HR
  obtain ⟨⟨_, _⟩, ⟨hn1, hn2⟩, ht, hlc, hcb, htd, hdb, _, _⟩ := hf
  have HB := Lib.hid (Blk.new w 32 #[.int .i64 v.kind, .int .i64 v.num, .string v.text, .slice A v.list.length c, .slice B v.table.length d])
  have ka : Kept noneS w (w.alloc (.cells #[.int .i64 v.kind, .int .i64 v.num, .string v.text, .slice A v.list.length c, .slice B v.table.length d] 32)) := (Kept.refl noneS w).alloc _
  have KA := Lib.hid ka
  have HL := Lib.hid (hL.still ka)
  have HT := Lib.hid (hT.still ka)
  clear ka hL hT
  have q116 : (v.kind == 116) = false := by rw [hk]; rfl
  have q98 : (v.kind == 98) = false := by rw [hk]; rfl
  have q115 : (v.kind == 115) = false := by rw [hk]; rfl
  have q73 : (v.kind == 73) = false := by rw [hk]; rfl
  have q108 : (v.kind == 108) = false := by rw [hk]; rfl
  have q100 : (v.kind == 100) = false := by rw [hk]; rfl
  have q84 : (v.kind == 84) = false := by rw [hk]; rfl
  have q68 : (v.kind == 68) = true := by rw [hk]; rfl
  have HK := Lib.hid (show numK v.kind = true ∨ v.kind = 68 from .inr hk)
  clear hk
  rcases hfit : fitB v.kind v.num with _ | _
  · obtain rfl : r = 32 := by rw [HE.out, hfit]; rfl
    clear HE
    go_enter Try.func26, Try.ntmps26
    go_wp2_with ((go_at_call 32; refine (ftFits v.kind v.num _ HK.out hn1 hn2).mono ?_; rw [hfit]; rintro e w' ⟨rfl, rfl⟩))
    go_ret
    exact ⟨rfl, KA.out⟩
  by_cases hs : v.text.size = 1
  · have hs' : ((v.text.size : Int) != 1) = false := by rw [hs]; rfl
    have HS := Lib.hid hs
    clear hs
    rcases hbr : bareP true true false false v.num v.text v.list.length v.table.length with _ | _
    · obtain rfl : r = 32 := by rw [HE.out, hfit, hbr]; simp
      clear HE
      go_enter Try.func26, Try.ntmps26
      go_wp2_with (first | (go_at_call 32; refine (ftFits v.kind v.num _ HK.out hn1 hn2).mono ?_; rw [hfit]; rintro e w' ⟨rfl, rfl⟩) | (go_at_call 31; refine (bare _ _ _ _ _ v.kind v.num v.text A B v.list.length c v.table.length d _ HB.out (by omega) (by omega)).mono ?_; rw [hbr]; rintro e w' ⟨rfl, rfl⟩))
      go_ret
      exact ⟨rfl, KA.out⟩
    · obtain rfl : r = 0 := by rw [HE.out, hfit, hbr, HS.out]; rfl
      clear HE
      go_enter Try.func26, Try.ntmps26
      go_wp2_with (first | (go_at_call 32; refine (ftFits v.kind v.num _ HK.out hn1 hn2).mono ?_; rw [hfit]; rintro e w' ⟨rfl, rfl⟩) | (go_at_call 31; refine (bare _ _ _ _ _ v.kind v.num v.text A B v.list.length c v.table.length d _ HB.out (by omega) (by omega)).mono ?_; rw [hbr]; rintro e w' ⟨rfl, rfl⟩))
      go_ret
      exact ⟨rfl, KA.out⟩
  · have hs' : ((v.text.size : Int) != 1) = true := by simp; omega
    obtain rfl : r = 32 := by rw [HE.out, hfit]; simp [hs]
    clear HE hs
    go_enter Try.func26, Try.ntmps26
    go_wp2_with (first | (go_at_call 32; refine (ftFits v.kind v.num _ HK.out hn1 hn2).mono ?_; rw [hfit]; rintro e w' ⟨rfl, rfl⟩) | (go_at_call 31; refine (bare _ _ _ _ _ v.kind v.num v.text A B v.list.length c v.table.length d _ HB.out (by omega) (by omega)).mono ?_; rw [hbr]; rintro e w' ⟨rfl, rfl⟩))
    go_ret
    exact ⟨rfl, KA.out⟩

set_option maxHeartbeats 3200000 in
theorem ckV_83 (v : FV) (hk : v.kind = 83) (A B : Option Addr) (c d : Nat) (dp : Int) (F : Nat → Prop) (w : World) (hL : LAt w F A v.list) (hT : TAt w F B v.table) (hf : v.fit c d) (_h1 : 1 ≤ dp) (_h4 : dp ≤ 4) :
    Calls Try.prog 26 #[.agg #[.int .i64 v.kind, .int .i64 v.num, .string v.text, .slice A v.list.length c, .slice B v.table.length d], .int .i64 dp] w fun e w' => e = .returned (.int .i64 (errV v dp)) ∧ Kept noneS w w' := by
  have HE := Lib.hid ((errV_eq v dp).trans (shape_txt (by omega)))
  obtain ⟨r, HR⟩ : ∃ r, Hid (errV v dp = r) := ⟨_, Lib.hid rfl⟩
  rw [HR.out] at HE ⊢
  clear HR
  obtain ⟨⟨_, _⟩, ⟨hn1, hn2⟩, ht, hlc, hcb, htd, hdb, _, _⟩ := hf
  have HB := Lib.hid (Blk.new w 32 #[.int .i64 v.kind, .int .i64 v.num, .string v.text, .slice A v.list.length c, .slice B v.table.length d])
  have ka : Kept noneS w (w.alloc (.cells #[.int .i64 v.kind, .int .i64 v.num, .string v.text, .slice A v.list.length c, .slice B v.table.length d] 32)) := (Kept.refl noneS w).alloc _
  have KA := Lib.hid ka
  have HL := Lib.hid (hL.still ka)
  have HT := Lib.hid (hT.still ka)
  clear ka hL hT
  have q116 : (v.kind == 116) = false := by rw [hk]; rfl
  have q98 : (v.kind == 98) = false := by rw [hk]; rfl
  have q115 : (v.kind == 115) = false := by rw [hk]; rfl
  have q73 : (v.kind == 73) = false := by rw [hk]; rfl
  have q108 : (v.kind == 108) = false := by rw [hk]; rfl
  have q100 : (v.kind == 100) = false := by rw [hk]; rfl
  have q84 : (v.kind == 84) = false := by rw [hk]; rfl
  have q68 : (v.kind == 68) = false := by rw [hk]; rfl
  have q83 : (v.kind == 83) = true := by rw [hk]; rfl
  clear hk
  rcases hbr : bareP false true false false v.num v.text v.list.length v.table.length with _ | _
  · obtain rfl : r = 32 := by rw [HE.out, hbr]; rfl
    clear HE
    go_enter Try.func26, Try.ntmps26
    go_wp2_with ((go_at_call 31; refine (bare _ _ _ _ _ v.kind v.num v.text A B v.list.length c v.table.length d _ HB.out (by omega) (by omega)).mono ?_; rw [hbr]; rintro e w' ⟨rfl, rfl⟩))
    go_ret
    exact ⟨rfl, KA.out⟩
  by_cases hs : 65535 < v.text.size
  · have hs' : 65535 < (v.text.size : Int) := by omega
    obtain rfl : r = 1 := by rw [HE.out, hbr, if_pos rfl, if_pos hs]
    clear HE
    go_enter Try.func26, Try.ntmps26
    go_wp2_with ((go_at_call 31; refine (bare _ _ _ _ _ v.kind v.num v.text A B v.list.length c v.table.length d _ HB.out (by omega) (by omega)).mono ?_; rw [hbr]; rintro e w' ⟨rfl, rfl⟩))
    go_ret
    exact ⟨rfl, KA.out⟩
  · have hs' : ¬ 65535 < (v.text.size : Int) := by omega
    obtain rfl : r = 0 := by rw [HE.out, hbr, if_pos rfl, if_neg hs]
    clear HE
    go_enter Try.func26, Try.ntmps26
    go_wp2_with ((go_at_call 31; refine (bare _ _ _ _ _ v.kind v.num v.text A B v.list.length c v.table.length d _ HB.out (by omega) (by omega)).mono ?_; rw [hbr]; rintro e w' ⟨rfl, rfl⟩))
    go_ret
    exact ⟨rfl, KA.out⟩

set_option maxHeartbeats 3200000 in
theorem ckV_120 (v : FV) (hk : v.kind = 120) (A B : Option Addr) (c d : Nat) (dp : Int) (F : Nat → Prop) (w : World) (hL : LAt w F A v.list) (hT : TAt w F B v.table) (hf : v.fit c d) (_h1 : 1 ≤ dp) (_h4 : dp ≤ 4) :
    Calls Try.prog 26 #[.agg #[.int .i64 v.kind, .int .i64 v.num, .string v.text, .slice A v.list.length c, .slice B v.table.length d], .int .i64 dp] w fun e w' => e = .returned (.int .i64 (errV v dp)) ∧ Kept noneS w w' := by
  have HE := Lib.hid ((errV_eq v dp).trans (shape_txt (by omega)))
  obtain ⟨r, HR⟩ : ∃ r, Hid (errV v dp = r) := ⟨_, Lib.hid rfl⟩
  rw [HR.out] at HE ⊢
  clear HR
  obtain ⟨⟨_, _⟩, ⟨hn1, hn2⟩, ht, hlc, hcb, htd, hdb, _, _⟩ := hf
  have HB := Lib.hid (Blk.new w 32 #[.int .i64 v.kind, .int .i64 v.num, .string v.text, .slice A v.list.length c, .slice B v.table.length d])
  have ka : Kept noneS w (w.alloc (.cells #[.int .i64 v.kind, .int .i64 v.num, .string v.text, .slice A v.list.length c, .slice B v.table.length d] 32)) := (Kept.refl noneS w).alloc _
  have KA := Lib.hid ka
  have HL := Lib.hid (hL.still ka)
  have HT := Lib.hid (hT.still ka)
  clear ka hL hT
  have q116 : (v.kind == 116) = false := by rw [hk]; rfl
  have q98 : (v.kind == 98) = false := by rw [hk]; rfl
  have q115 : (v.kind == 115) = false := by rw [hk]; rfl
  have q73 : (v.kind == 73) = false := by rw [hk]; rfl
  have q108 : (v.kind == 108) = false := by rw [hk]; rfl
  have q100 : (v.kind == 100) = false := by rw [hk]; rfl
  have q84 : (v.kind == 84) = false := by rw [hk]; rfl
  have q68 : (v.kind == 68) = false := by rw [hk]; rfl
  have q83 : (v.kind == 83) = false := by rw [hk]; rfl
  have q120 : (v.kind == 120) = true := by rw [hk]; rfl
  clear hk
  rcases hbr : bareP false true false false v.num v.text v.list.length v.table.length with _ | _
  · obtain rfl : r = 32 := by rw [HE.out, hbr]; rfl
    clear HE
    go_enter Try.func26, Try.ntmps26
    go_wp2_with ((go_at_call 31; refine (bare _ _ _ _ _ v.kind v.num v.text A B v.list.length c v.table.length d _ HB.out (by omega) (by omega)).mono ?_; rw [hbr]; rintro e w' ⟨rfl, rfl⟩))
    go_ret
    exact ⟨rfl, KA.out⟩
  by_cases hs : 65535 < v.text.size
  · have hs' : 65535 < (v.text.size : Int) := by omega
    obtain rfl : r = 1 := by rw [HE.out, hbr, if_pos rfl, if_pos hs]
    clear HE
    go_enter Try.func26, Try.ntmps26
    go_wp2_with ((go_at_call 31; refine (bare _ _ _ _ _ v.kind v.num v.text A B v.list.length c v.table.length d _ HB.out (by omega) (by omega)).mono ?_; rw [hbr]; rintro e w' ⟨rfl, rfl⟩))
    go_ret
    exact ⟨rfl, KA.out⟩
  · have hs' : ¬ 65535 < (v.text.size : Int) := by omega
    obtain rfl : r = 0 := by rw [HE.out, hbr, if_pos rfl, if_neg hs]
    clear HE
    go_enter Try.func26, Try.ntmps26
    go_wp2_with ((go_at_call 31; refine (bare _ _ _ _ _ v.kind v.num v.text A B v.list.length c v.table.length d _ HB.out (by omega) (by omega)).mono ?_; rw [hbr]; rintro e w' ⟨rfl, rfl⟩))
    go_ret
    exact ⟨rfl, KA.out⟩

set_option maxHeartbeats 3200000 in
theorem ckV_86 (v : FV) (hk : v.kind = 86) (A B : Option Addr) (c d : Nat) (dp : Int) (F : Nat → Prop) (w : World) (hL : LAt w F A v.list) (hT : TAt w F B v.table) (hf : v.fit c d) (_h1 : 1 ≤ dp) (_h4 : dp ≤ 4) :
    Calls Try.prog 26 #[.agg #[.int .i64 v.kind, .int .i64 v.num, .string v.text, .slice A v.list.length c, .slice B v.table.length d], .int .i64 dp] w fun e w' => e = .returned (.int .i64 (errV v dp)) ∧ Kept noneS w w' := by
  have HE := Lib.hid ((errV_eq v dp).trans (shape_void hk))
  obtain ⟨r, HR⟩ : ∃ r, Hid (errV v dp = r) := ⟨_, Lib.hid rfl⟩
  rw [HR.out] at HE ⊢
  clear HR
  obtain ⟨⟨_, _⟩, ⟨hn1, hn2⟩, ht, hlc, hcb, htd, hdb, _, _⟩ := hf
  have HB := Lib.hid (Blk.new w 32 #[.int .i64 v.kind, .int .i64 v.num, .string v.text, .slice A v.list.length c, .slice B v.table.length d])
  have ka : Kept noneS w (w.alloc (.cells #[.int .i64 v.kind, .int .i64 v.num, .string v.text, .slice A v.list.length c, .slice B v.table.length d] 32)) := (Kept.refl noneS w).alloc _
  have KA := Lib.hid ka
  have HL := Lib.hid (hL.still ka)
  have HT := Lib.hid (hT.still ka)
  clear ka hL hT
  have q116 : (v.kind == 116) = false := by rw [hk]; rfl
  have q98 : (v.kind == 98) = false := by rw [hk]; rfl
  have q115 : (v.kind == 115) = false := by rw [hk]; rfl
  have q73 : (v.kind == 73) = false := by rw [hk]; rfl
  have q108 : (v.kind == 108) = false := by rw [hk]; rfl
  have q100 : (v.kind == 100) = false := by rw [hk]; rfl
  have q84 : (v.kind == 84) = false := by rw [hk]; rfl
  have q68 : (v.kind == 68) = false := by rw [hk]; rfl
  have q83 : (v.kind == 83) = false := by rw [hk]; rfl
  have q120 : (v.kind == 120) = false := by rw [hk]; rfl
  have q86 : (v.kind == 86) = true := by rw [hk]; rfl
  clear hk
  rcases hbr : bareP false false false false v.num v.text v.list.length v.table.length with _ | _
  · obtain rfl : r = 32 := by rw [HE.out, hbr]; rfl
    clear HE
    go_enter Try.func26, Try.ntmps26
    go_wp2_with ((go_at_call 31; refine (bare _ _ _ _ _ v.kind v.num v.text A B v.list.length c v.table.length d _ HB.out (by omega) (by omega)).mono ?_; rw [hbr]; rintro e w' ⟨rfl, rfl⟩))
    go_ret
    exact ⟨rfl, KA.out⟩
  · obtain rfl : r = 0 := by rw [HE.out, hbr]; rfl
    clear HE
    go_enter Try.func26, Try.ntmps26
    go_wp2_with ((go_at_call 31; refine (bare _ _ _ _ _ v.kind v.num v.text A B v.list.length c v.table.length d _ HB.out (by omega) (by omega)).mono ?_; rw [hbr]; rintro e w' ⟨rfl, rfl⟩))
    go_ret
    exact ⟨rfl, KA.out⟩

set_option maxHeartbeats 3200000 in
theorem ckV_65 (v : FV) (ih : ∀ x ∈ v.list, CKV x) (hk : v.kind = 65) (A B : Option Addr) (c d : Nat) (dp : Int) (F : Nat → Prop) (w : World) (hL : LAt w F A v.list) (hT : TAt w F B v.table) (hf : v.fit c d) (h1 : 1 ≤ dp) (h4 : dp ≤ 4) :
    Calls Try.prog 26 #[.agg #[.int .i64 v.kind, .int .i64 v.num, .string v.text, .slice A v.list.length c, .slice B v.table.length d], .int .i64 dp] w fun e w' => e = .returned (.int .i64 (errV v dp)) ∧ Kept noneS w w' := by
  have HE := Lib.hid ((errV_eq v dp).trans (shape_list hk))
  obtain ⟨r, HR⟩ : ∃ r, Hid (errV v dp = r) := ⟨_, Lib.hid rfl⟩
  rw [HR.out] at HE ⊢
  clear HR
  obtain ⟨⟨_, _⟩, ⟨hn1, hn2⟩, ht, hlc, hcb, htd, hdb, _, _⟩ := hf
  have HB := Lib.hid (Blk.new w 32 #[.int .i64 v.kind, .int .i64 v.num, .string v.text, .slice A v.list.length c, .slice B v.table.length d])
  have ka : Kept noneS w (w.alloc (.cells #[.int .i64 v.kind, .int .i64 v.num, .string v.text, .slice A v.list.length c, .slice B v.table.length d] 32)) := (Kept.refl noneS w).alloc _
  have KA := Lib.hid ka
  have HL := Lib.hid (hL.still ka)
  have HT := Lib.hid (hT.still ka)
  clear ka hL hT
  have q116 : (v.kind == 116) = false := by rw [hk]; rfl
  have q98 : (v.kind == 98) = false := by rw [hk]; rfl
  have q115 : (v.kind == 115) = false := by rw [hk]; rfl
  have q73 : (v.kind == 73) = false := by rw [hk]; rfl
  have q108 : (v.kind == 108) = false := by rw [hk]; rfl
  have q100 : (v.kind == 100) = false := by rw [hk]; rfl
  have q84 : (v.kind == 84) = false := by rw [hk]; rfl
  have q68 : (v.kind == 68) = false := by rw [hk]; rfl
  have q83 : (v.kind == 83) = false := by rw [hk]; rfl
  have q120 : (v.kind == 120) = false := by rw [hk]; rfl
  have q86 : (v.kind == 86) = false := by rw [hk]; rfl
  have q65 : (v.kind == 65) = true := by rw [hk]; rfl
  clear hk
  have IH := Lib.hid ih
  clear ih
  rcases hbr : bareP false false true false v.num v.text v.list.length v.table.length with _ | _
  · obtain rfl : r = 32 := by rw [HE.out, hbr]; rfl
    clear HE
    go_enter Try.func26, Try.ntmps26
    go_wp2_with ((go_at_call 31; refine (bare _ _ _ _ _ v.kind v.num v.text A B v.list.length c v.table.length d _ HB.out (by omega) (by omega)).mono ?_; rw [hbr]; rintro e w' ⟨rfl, rfl⟩))
    go_ret
    exact ⟨rfl, KA.out⟩
  · have HE' : Hid (r = errL v.list (dp + 1)) := Lib.hid (by rw [HE.out, hbr, if_pos rfl])
    clear HE
    go_enter Try.func26, Try.ntmps26
    go_wp2_with ((go_at_call 31; refine (bare _ _ _ _ _ v.kind v.num v.text A B v.list.length c v.table.length d _ HB.out (by omega) (by omega)).mono ?_; rw [hbr]; rintro e w' ⟨rfl, rfl⟩))
    refine (ckL v.list IH.out A c (dp + 1) F _ HL.out (by omega) (by omega) (by omega)).mono ?_
    rw [← HE'.out]
    rintro e w1 ⟨rfl, k1⟩
    have K1 := Lib.hid k1
    clear k1
    go_wp2
    go_ret
    exact ⟨rfl, KA.out.trans K1.out⟩

set_option maxHeartbeats 3200000 in
theorem ckV_70 (v : FV) (ih : ∀ f ∈ v.table, CKV f.val) (hk : v.kind = 70) (A B : Option Addr) (c d : Nat) (dp : Int) (F : Nat → Prop) (w : World) (hL : LAt w F A v.list) (hT : TAt w F B v.table) (hf : v.fit c d) (h1 : 1 ≤ dp) (h4 : dp ≤ 4) :
    Calls Try.prog 26 #[.agg #[.int .i64 v.kind, .int .i64 v.num, .string v.text, .slice A v.list.length c, .slice B v.table.length d], .int .i64 dp] w fun e w' => e = .returned (.int .i64 (errV v dp)) ∧ Kept noneS w w' := by
  have HE := Lib.hid ((errV_eq v dp).trans (shape_tab hk))
  obtain ⟨r, HR⟩ : ∃ r, Hid (errV v dp = r) := ⟨_, Lib.hid rfl⟩
  rw [HR.out] at HE ⊢
  clear HR
  obtain ⟨⟨_, _⟩, ⟨hn1, hn2⟩, ht, hlc, hcb, htd, hdb, _, _⟩ := hf
  have HB := Lib.hid (Blk.new w 32 #[.int .i64 v.kind, .int .i64 v.num, .string v.text, .slice A v.list.length c, .slice B v.table.length d])
  have ka : Kept noneS w (w.alloc (.cells #[.int .i64 v.kind, .int .i64 v.num, .string v.text, .slice A v.list.length c, .slice B v.table.length d] 32)) := (Kept.refl noneS w).alloc _
  have KA := Lib.hid ka
  have HL := Lib.hid (hL.still ka)
  have HT := Lib.hid (hT.still ka)
  clear ka hL hT
  have q116 : (v.kind == 116) = false := by rw [hk]; rfl
  have q98 : (v.kind == 98) = false := by rw [hk]; rfl
  have q115 : (v.kind == 115) = false := by rw [hk]; rfl
  have q73 : (v.kind == 73) = false := by rw [hk]; rfl
  have q108 : (v.kind == 108) = false := by rw [hk]; rfl
  have q100 : (v.kind == 100) = false := by rw [hk]; rfl
  have q84 : (v.kind == 84) = false := by rw [hk]; rfl
  have q68 : (v.kind == 68) = false := by rw [hk]; rfl
  have q83 : (v.kind == 83) = false := by rw [hk]; rfl
  have q120 : (v.kind == 120) = false := by rw [hk]; rfl
  have q86 : (v.kind == 86) = false := by rw [hk]; rfl
  have q65 : (v.kind == 65) = false := by rw [hk]; rfl
  have q70 : (v.kind == 70) = true := by rw [hk]; rfl
  clear hk
  have IH := Lib.hid ih
  clear ih
  rcases hbr : bareP false false false true v.num v.text v.list.length v.table.length with _ | _
  · obtain rfl : r = 32 := by rw [HE.out, hbr]; rfl
    clear HE
    go_enter Try.func26, Try.ntmps26
    go_wp2_with ((go_at_call 31; refine (bare _ _ _ _ _ v.kind v.num v.text A B v.list.length c v.table.length d _ HB.out (by omega) (by omega)).mono ?_; rw [hbr]; rintro e w' ⟨rfl, rfl⟩))
    go_ret
    exact ⟨rfl, KA.out⟩
  · have HE' : Hid (r = errT v.table (dp + 1)) := Lib.hid (by rw [HE.out, hbr, if_pos rfl])
    clear HE
    go_enter Try.func26, Try.ntmps26
    go_wp2_with ((go_at_call 31; refine (bare _ _ _ _ _ v.kind v.num v.text A B v.list.length c v.table.length d _ HB.out (by omega) (by omega)).mono ?_; rw [hbr]; rintro e w' ⟨rfl, rfl⟩))
    refine (ckT v.table IH.out B d (dp + 1) F _ HT.out (by omega) (by omega) (by omega)).mono ?_
    rw [← HE'.out]
    rintro e w1 ⟨rfl, k1⟩
    have K1 := Lib.hid k1
    clear k1
    go_wp2
    go_ret
    exact ⟨rfl, KA.out.trans K1.out⟩

set_option maxHeartbeats 3200000 in
theorem ckV_none (v : FV) (hk : noKind v.kind) (A B : Option Addr) (c d : Nat) (dp : Int) (F : Nat → Prop) (w : World) (hL : LAt w F A v.list) (hT : TAt w F B v.table) (hf : v.fit c d) (_h1 : 1 ≤ dp) (_h4 : dp ≤ 4) :
    Calls Try.prog 26 #[.agg #[.int .i64 v.kind, .int .i64 v.num, .string v.text, .slice A v.list.length c, .slice B v.table.length d], .int .i64 dp] w fun e w' => e = .returned (.int .i64 (errV v dp)) ∧ Kept noneS w w' := by
  have HE := Lib.hid ((errV_eq v dp).trans (shape_none hk))
  obtain ⟨r, HR⟩ : ∃ r, Hid (errV v dp = r) := ⟨_, Lib.hid rfl⟩
  rw [HR.out] at HE ⊢
  clear HR
  obtain ⟨⟨_, _⟩, ⟨hn1, hn2⟩, ht, hlc, hcb, htd, hdb, _, _⟩ := hf
  have HB := Lib.hid (Blk.new w 32 #[.int .i64 v.kind, .int .i64 v.num, .string v.text, .slice A v.list.length c, .slice B v.table.length d])
  have ka : Kept noneS w (w.alloc (.cells #[.int .i64 v.kind, .int .i64 v.num, .string v.text, .slice A v.list.length c, .slice B v.table.length d] 32)) := (Kept.refl noneS w).alloc _
  have KA := Lib.hid ka
  have HL := Lib.hid (hL.still ka)
  have HT := Lib.hid (hT.still ka)
  clear ka hL hT
  obtain ⟨⟨_, _, _, _, _, _, _⟩, _, _, _, _, _, _⟩ := hk.eqs
  clear hk
  obtain rfl : r = 30 := HE.out
  clear HE
  go_enter Try.func26, Try.ntmps26
  go_wp2
  go_ret
  exact ⟨rfl, KA.out⟩

theorem ckV (v : FV) (ihl : ∀ x ∈ v.list, CKV x) (iht : ∀ f ∈ v.table, CKV f.val) : CKV v := by
  by_cases hk : noKind v.kind
  · exact ckV_none v hk
  · rcases kinds v.kind hk with h | h | h | h | h | h | h | h | h | h | h | h | h
    · exact ckV_116 v h
    · exact ckV_98 v h
    · exact ckV_115 v h
    · exact ckV_73 v h
    · exact ckV_108 v h
    · exact ckV_100 v h
    · exact ckV_84 v h
    · exact ckV_68 v h
    · exact ckV_83 v h
    · exact ckV_120 v h
    · exact ckV_86 v h
    · exact ckV_65 v ihl h
    · exact ckV_70 v iht h

theorem ckv_all : ∀ (n : Nat) (v : FV), v.sz ≤ n → CKV v
  | 0, v, h => by
    have := v.sz_eq
    omega
  | n + 1, v, h => by
    have hs := v.sz_eq
    refine ckV v (fun x hx => ckv_all n x ?_) (fun f hf => ckv_all n f.val ?_)
    · have := szVs_mem _ x hx
      omega
    · have := szFs_mem _ f hf
      omega

theorem ckv (v : FV) : CKV v := ckv_all v.sz v (Nat.le_refl _)

end Go.Proofs.Ytdhaojicphhikaa
