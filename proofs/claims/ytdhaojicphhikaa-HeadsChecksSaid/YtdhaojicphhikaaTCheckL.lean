/-
  ftable.checkList, out of checkValue's contract at the values.
-/
import Derived.Test.YtdhaojicphhikaaTBare
namespace Go.Proofs.Ytdhaojicphhikaa
open Go.RowKit

/-- The contract of ftable.checkValue at v. -/
def CKV (v : FV) : Prop := ∀ (A B : Option Addr) (c d : Nat) (dp : Int) (F : Nat → Prop) (w : World), LAt w F A v.list → TAt w F B v.table → v.fit c d → 1 ≤ dp → dp ≤ 4 →
  Calls Try.prog 26 #[.agg #[.int .i64 v.kind, .int .i64 v.num, .string v.text, .slice A v.list.length c, .slice B v.table.length d], .int .i64 dp] w fun e w' => e = .returned (.int .i64 (errV v dp)) ∧ Kept noneS w w'

set_option maxHeartbeats 1600000 in
theorem ckL (l : List FV) (ih : ∀ x ∈ l, CKV x) (A : Option Addr) (c : Nat) (dp : Int) (F : Nat → Prop) (w : World) (h : LAt w F A l) (hl : l.length * 80 ≤ 140737488351232) (h1 : 1 ≤ dp) (h5 : dp ≤ 5) :
    Calls Try.prog 33 #[.slice A l.length c, .int .i64 dp] w fun e w' => e = .returned (.int .i64 (errL l dp)) ∧ Kept noneS w w' := by
  obtain ⟨r, HR⟩ : ∃ r, Hid (errL l dp = r) := ⟨_, Lib.hid rfl⟩
  rw [HR.out]
  by_cases hd : 4 < dp
  · have hr : r = 8 := by rw [← HR.out, errL_deep hd]
    subst hr
    have e8 := Lib.hid (show (if 4 < dp then (8 : Int) else if 64 < l.length then 33 else 0) = 8 by rw [if_pos hd])
    clear HR h ih
    go_enter Try.func33, Try.ntmps33
    go_wp2_with (go_at_call 25; refine (room _ _ _).mono ?_; rw [e8.out]; rintro e w' ⟨rfl, rfl⟩)
    go_ret
    exact ⟨rfl, Kept.refl _ _⟩
  by_cases hm : 64 < l.length
  · have hr : r = 33 := by rw [← HR.out, errL_many hd hm]
    subst hr
    have e8 := Lib.hid (show (if 4 < dp then (8 : Int) else if 64 < l.length then 33 else 0) = 33 by rw [if_neg hd, if_pos hm])
    clear HR h ih
    go_enter Try.func33, Try.ntmps33
    go_wp2_with (go_at_call 25; refine (room _ _ _).mono ?_; rw [e8.out]; rintro e w' ⟨rfl, rfl⟩)
    go_ret
    exact ⟨rfl, Kept.refl _ _⟩
  have e8 := Lib.hid (show (if 4 < dp then (8 : Int) else if 64 < l.length then 33 else 0) = 0 by rw [if_neg hd, if_neg hm])
  have HL := Lib.hid h
  have IH := Lib.hid ih
  clear h ih
  go_enter Try.func33, Try.ntmps33
  go_wp2_with (go_at_call 25; refine (room _ _ _).mono ?_; rw [e8.out]; rintro e w' ⟨rfl, rfl⟩)
  go_loopw [18] (fun i wr => ∃ j : Nat, j ≤ l.length ∧ i = .int .i64 j ∧ Hid (∀ k (_ : k < j) (hk : k < l.length), errV l[k] dp = 0) ∧ Kept noneS w wr) (fun i _ => l.length - (intOf i).toNat)
  case atStart => exact ⟨0, Nat.zero_le _, rfl, Lib.hid (fun k h => by omega), Kept.refl _ _⟩
  case round =>
    obtain ⟨j, hj, rfl, HN, hk⟩ := hrel
    have KR := Lib.hid hk
    clear hk
    by_cases hlt : j < l.length
    · obtain ⟨g, o, B1, c1, B2, c2, rfl, _, hf1, hL1, hT1, d0, d1, d2, d3, d4⟩ := (HL.out.still KR.out).at_ hlt
      have HI := Lib.hid (IH.out l[j] (List.getElem_mem hlt))
      have HF : Hid (errV l[j] dp ≠ 0 → r = errV l[j] dp) := Lib.hid (fun q => by rw [← HR.out]; exact errL_at (by omega) (by omega) hlt HN.out q)
      have HG : Hid (errV l[j] dp = 0 → ∀ k (_ : k < j + 1) (hk : k < l.length), errV l[k] dp = 0) := Lib.hid (fun q k h a => by
          rcases Nat.lt_or_ge k j with hk | hk
          · exact HN.out k hk a
          · obtain rfl : k = j := by omega
            exact q)
      generalize l[j] = f at *
      have hji : (j : Int) < (l.length : Int) := by omega
      have hj0 : (0 : Int) ≤ (j : Int) := by omega
      have HL1 := Lib.hid hL1
      have HT1 := Lib.hid hT1
      have HF1 := Lib.hid hf1
      clear hL1 hT1 hf1
      go_wp2_with fail
      refine (HI.out B1 B2 c1 c2 dp F _ (HL1.out.still ((Kept.refl _ _).alloc _)) (HT1.out.still ((Kept.refl _ _).alloc _)) HF1.out h1 (by omega)).mono ?_
      rintro e w1 ⟨rfl, k1⟩
      have K1 := Lib.hid (((Kept.refl noneS wr).alloc _).trans k1)
      clear k1
      generalize errV f dp = ev at HF HG ⊢
      rcases q : (ev != 0) with _ | _
      · have HG' := Lib.hid (HG.out (by simpa using q))
        clear HG HF
        go_wp2
        go_roundw
        case rel => exact ⟨j + 1, by omega, by go_num, HG', KR.out.trans K1.out⟩
        case measure => simp [intOf]; omega
      · obtain rfl : r = ev := HF.out (by simpa using q)
        clear HG HF HR
        go_wp2
        go_ret
        exact ⟨rfl, KR.out.trans K1.out⟩
    · obtain rfl : j = l.length := by omega
      have hr : r = 0 := by rw [← HR.out]; exact errL_none (by omega) (by omega) (fun k hk => HN.out k hk hk)
      subst hr
      clear HR
      go_wp2
      go_ret
      exact ⟨rfl, KR.out⟩

end Go.Proofs.Ytdhaojicphhikaa
