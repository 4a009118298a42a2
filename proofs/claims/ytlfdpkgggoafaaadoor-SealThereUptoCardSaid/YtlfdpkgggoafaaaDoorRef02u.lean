/-
  The contract of warrenref02.Unwrap.
-/
import Derived.Test.YtlfdpkgggoafaaaDoorRef02
import Derived.Test.YtlfdpkgggoafaaaDoorSealU
namespace Go.Proofs.YtlfdpkgggoafaaaDoor
open Go.RowKit

theorem unwrap_iff (b : List UInt8) (n : Nat) (hn : beNat (b.take 4) = n) (h : 8 + n ≤ b.length) :
    (sealRec ((b.drop 8).take n) = b.take (8 + n)) ↔ Crc.sum (b.take 4 ++ (b.drop 8).take n) = beNat ((b.drop 4).take 4) := by
  have hl4 : (b.take 4).length = 4 := by simp; omega
  have hl : ((b.drop 4).take 4).length = 4 := by simp; omega
  have hd : ((b.drop 8).take n).length = n := by simp; omega
  have e1 : be 4 (n : Int) = b.take 4 := by
    have := be_beNat (b.take 4)
    rw [hl4, hn] at this
    exact this
  have e2 : b.take (8 + n) = b.take 4 ++ (b.drop 4).take 4 ++ (b.drop 8).take n := by
    rw [List.take_add, show b.take 8 = b.take 4 ++ (b.drop 4).take 4 from List.take_add (i := 4) (j := 4)]
  unfold sealRec
  rw [hd, e1, e2, List.append_left_inj, List.append_right_inj]
  have hs : Crc.sum (b.take 4 ++ (b.drop 8).take n) < 256 ^ 4 := Crc.xor_lt (Crc.over_lt _ (by decide)) (by decide)
  constructor
  · intro hq
    rw [← hq, beNat_be 4 _ hs]
  · intro hq
    have := be_beNat ((b.drop 4).take 4)
    rw [hl] at this
    rw [hq, this]

theorem refCopy' (A : Option Addr) (c n : Nat) (xs : List UInt8) (F : Nat → Prop) (w : World) (hx : RB w F A xs) (hn : xs.length ≤ 140737488351232) (hl : xs.length = n) :
    Calls Tryd.prog 27 #[.slice A n c] w fun e w' => ∃ A' c', e = .returned (.slice A' xs.length c') ∧ OB w' (w.heap.size ≤ ·) (.slice A' xs.length c') xs ∧ Kept noneS w w' := by
  subst hl
  exact refCopy A c xs F w hx hn

theorem refUnwrap_tiny (A : Option Addr) (c : Nat) (b : List UInt8) (w : World) (hb : b.length < 8) :
    Calls Tryd.prog 17 #[.slice A b.length c] w (UnwrapPost w (unwrapP b)) := by
  have HR : Hid (unwrapP b = ([], 0, 3)) := Lib.hid (by unfold unwrapP; rw [if_pos hb])
  go_enter Tryd.func17, Tryd.ntmps17
  go_wp2
  go_ret3
  rw [HR.out]
  exact ⟨_, _, rfl, Own.empty _ _ _ _ (Nat.le_refl _), (Kept.refl _ _).alloc _⟩

set_option maxHeartbeats 400000 in
theorem refUnwrap_more (A : Option Addr) (c : Nat) (b : List UInt8) (F : Nat → Prop) (w : World) (hr : RB w F A b) (hb : 8 ≤ b.length) (hc : b.length ≤ c) (hc2 : c ≤ 9223372036854775807) :
    Calls Tryd.prog 17 #[.slice A b.length c] w (UnwrapPost w (unwrapP b)) := by
  have HR := Lib.hid (hr.mono (G := (· < w.heap.size)) fun _ h _ => h)
  obtain ⟨g, o, rfl, _⟩ := hr.at_ (show 0 < b.length by omega)
  clear hr
  have HE : Hid ((b.take 4).length = 4) := Lib.hid (by simp; omega)
  have hnb : beNat (b.take 4) < 4294967296 := beNat_lt_of (k := 4) (by simp; omega)
  have e1 : IntKind.i64.wrap (beNat (b.take 4) : Int) = (beNat (b.take 4) : Int) := IntWalk.i64_in _ (by omega)
  go_enter Tryd.func17, Tryd.ntmps17
  go_wp2_with fail
  refine (refVal _ c 4 (b.take 4) _ w (HR.out.take 4) (by rw [HE.out]; decide) HE.out).mono ?_
  rintro e w1 ⟨rfl, rfl⟩
  rw [e1]
  clear e1
  generalize hN : beNat (b.take 4) = n at hnb
  have HN := Lib.hid hN
  clear hN
  by_cases h1 : 1048576 < n
  · have HP : Hid (unwrapP b = ([], 0, 1)) := Lib.hid (by unfold unwrapP; rw [if_neg (by omega), HN.out, if_pos h1])
    go_wp2
    go_ret3
    rw [HP.out]
    exact ⟨_, _, rfl, Own.empty _ _ _ _ (Nat.le_refl _), (Kept.refl _ _).alloc _⟩
  · by_cases h2 : b.length < 8 + n
    · have HP : Hid (unwrapP b = ([], 0, 3)) := Lib.hid (by unfold unwrapP; rw [if_neg (by omega), HN.out, if_neg h1, if_pos h2])
      go_wp2
      go_ret3
      rw [HP.out]
      exact ⟨_, _, rfl, Own.empty _ _ _ _ (Nat.le_refl _), (Kept.refl _ _).alloc _⟩
    · have DR : Hid (RB w (· < w.heap.size) (if c = 8 then some ⟨g, o, none⟩ else some ⟨g, o + 8, none⟩) ((b.drop 8).take n)) := Lib.hid (by
        have h := (HR.out.cut (k := 8) hc).take n
        exact h)
      have HLn : Hid (((b.drop 8).take n).length = n) := Lib.hid (by simp; omega)
      have HP : Hid (unwrapP b = if sealRec ((b.drop 8).take n) = b.take (8 + n) then ((b.drop 8).take n, 8 + n, 0) else ([], 0, 9)) := Lib.hid (by
        unfold unwrapP
        rw [if_neg (by omega), HN.out, if_neg h1, if_neg h2]
        simp only [unwrap_iff b n HN.out (by omega)])
      have DW : Hid (RB w (· < w.heap.size) (some ⟨g, o, none⟩) (b.take (8 + n))) := Lib.hid (HR.out.take _)
      have HLw : Hid ((b.take (8 + n)).length = 8 + n) := Lib.hid (by simp; omega)
      generalize (b.drop 8).take n = dd at DR HLn HP
      generalize b.take (8 + n) = bw at DW HLw HP
      by_cases hc8 : c = 8
      · rw [if_pos hc8] at DR
        subst hc8
        go_wp2_with fail
        refine (refCopy' (some ⟨g, o, none⟩) _ n dd _ w DR.out (by rw [HLn.out]; omega) HLn.out).mono ?_
        rintro e w2 ⟨A2, c2, rfl, h2, k2⟩
        have H2 := Lib.hid h2
        have K2 := Lib.hid k2
        clear h2 k2
        have hdl : dd.length ≤ 1048576 := by rw [HLn.out]; omega
        go_wp2_with fail
        refine (refWrap_ok A2 c2 dd _ w2 (OB.rb H2.out).2 hdl).mono ?_
        rintro e w3 ⟨A3, c3, rfl, h3, k3⟩
        generalize sealRec dd = R at h3 HP
        have s1 := run_str (w3.drew) _ A3 c3 R (OB.rb h3).2
        have s2 := run_str (w3.drew) _ (some ⟨g, o, none⟩) 8 bw (RB.drew (DW.out.still (K2.out.trans k3)))
        rw [HLw.out] at s2
        have K3 := Lib.hid (K2.out.trans k3)
        have H23 := Lib.hid (Own.keep H2.out k3 (fun _ _ _ q => q.elim))
        clear h3 k3
        by_cases hq : R = bw
        · subst hq
          rw [if_pos rfl] at HP
          go_wp2_with fail
          go_region
          go_wp2
          go_ret3
          rw [HP.out]
          refine ⟨A2, c2, ?_, Own.drew H23.out, K3.out.drew⟩
          rw [show ((8 + n : Nat) : Int) = 8 + (n : Int) by omega]
          rfl
        · have hb1 : (R == bw) = false := by simpa using hq
          have hb2 : (R != bw) = true := by simpa using hq
          rw [if_neg hq] at HP
          clear hq
          go_wp2_with fail
          go_region
          go_wp2
          go_ret3
          rw [HP.out]
          refine ⟨_, _, rfl, Own.empty _ _ _ _ ?_, ?_⟩
          · exact K3.out.size
          · exact K3.out.drew.alloc _
      · rw [if_neg hc8] at DR
        go_wp2_with fail
        refine (refCopy' (some ⟨g, o + 8, none⟩) _ n dd _ w DR.out (by rw [HLn.out]; omega) HLn.out).mono ?_
        rintro e w2 ⟨A2, c2, rfl, h2, k2⟩
        have H2 := Lib.hid h2
        have K2 := Lib.hid k2
        clear h2 k2
        have hdl : dd.length ≤ 1048576 := by rw [HLn.out]; omega
        go_wp2_with fail
        refine (refWrap_ok A2 c2 dd _ w2 (OB.rb H2.out).2 hdl).mono ?_
        rintro e w3 ⟨A3, c3, rfl, h3, k3⟩
        generalize sealRec dd = R at h3 HP
        have s1 := run_str (w3.drew) _ A3 c3 R (OB.rb h3).2
        have s2 := run_str (w3.drew) _ (some ⟨g, o, none⟩) c bw (RB.drew (DW.out.still (K2.out.trans k3)))
        rw [HLw.out] at s2
        have K3 := Lib.hid (K2.out.trans k3)
        have H23 := Lib.hid (Own.keep H2.out k3 (fun _ _ _ q => q.elim))
        clear h3 k3
        by_cases hq : R = bw
        · subst hq
          rw [if_pos rfl] at HP
          go_wp2_with fail
          go_region
          go_wp2
          go_ret3
          rw [HP.out]
          refine ⟨A2, c2, ?_, Own.drew H23.out, K3.out.drew⟩
          rw [show ((8 + n : Nat) : Int) = 8 + (n : Int) by omega]
          rfl
        · have hb1 : (R == bw) = false := by simpa using hq
          have hb2 : (R != bw) = true := by simpa using hq
          rw [if_neg hq] at HP
          clear hq
          go_wp2_with fail
          go_region
          go_wp2
          go_ret3
          rw [HP.out]
          refine ⟨_, _, rfl, Own.empty _ _ _ _ ?_, ?_⟩
          · exact K3.out.size
          · exact K3.out.drew.alloc _

theorem refUnwrap_any (A : Option Addr) (c : Nat) (b : List UInt8) (F : Nat → Prop) (w : World) (hr : RB w F A b) (hc : b.length ≤ c) (hc2 : c ≤ 9223372036854775807) :
    Calls Tryd.prog 17 #[.slice A b.length c] w (UnwrapPost w (unwrapP b)) := by
  by_cases h : b.length < 8
  · exact refUnwrap_tiny A c b w h
  · exact refUnwrap_more A c b F w hr (by omega) hc hc2

end Go.Proofs.YtlfdpkgggoafaaaDoor
