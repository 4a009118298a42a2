/-
  The walk of DiskOpens.
-/
import Derived.Test.YtnlmkfncdklcdaaDkSpeaks
import Derived.Test.YtnlmkfncdklcdaaDkRef7
import Derived.Test.YtnlmkfncdklcdaaDkLaw
import Derived.Test.YtnlmkfncdklcdaaDkWipe
namespace Go.Proofs.Ytnlmkfncdklcdaa
open Go.RowKit

set_option maxRecDepth 100000 in
set_option maxHeartbeats 3200000 in
theorem diskOpens_walk (A : Option Addr) (c : Nat) (fs : List FlS) (room : Int) (w : World) (h : FlsAt w (· < w.heap.size) A fs) (hl : fs.length * 48 ≤ 140737488355328) (ht : totLen fs ≤ 140737488351232) (hr : -9223372036854775808 ≤ room ∧ room ≤ 9223372036854775807) :
    Calls Try.prog 4 #[.slice A fs.length c, .int .i64 room] w fun e w' => e = .returned (.bool true) ∧ Kept noneS w w' := by
  have HX := Lib.hid h
  have HT := Lib.hid ht
  have HR := Lib.hid hr
  clear h ht hr
  go_enter Try.func4, Try.ntmps4
  go_wp2_with fail
  refine (speaks11 w).mono ?_
  rintro e w1 ⟨rfl, k1⟩
  have K1 := Lib.hid k1
  clear k1
  go_wp2_with fail
  refine (copyFiles A c fs _ w1 (HX.out.still K1.out) (by omega)).mono ?_
  rintro e w2 ⟨A2, c2, rfl, o2, k2⟩
  have O2 := Lib.hid (o2.mono (G := fun k => w1.heap.size ≤ k ∧ k < w2.heap.size) (fun k a b => ⟨b, a⟩))
  have K2 := Lib.hid (K1.out.trans k2)
  have Z2 := Lib.hid k2.size
  clear k2 o2
  go_wp2_with fail
  refine (diskOpen A2 c2 fs room _ w2 O2.out.fls (by omega) HR.out).mono ?_
  intro e w3 hp3
  have k3 : Kept noneS w2 w3 := by
    rcases hp3 with ⟨_, _, k⟩ | ⟨_, _, _, _, _, _, _, k⟩
    · exact k
    · exact k
  have K3 := Lib.hid k3
  have HP3 := Lib.hid hp3
  clear k3 hp3
  by_cases he : openErr fs [] = 0
  · rcases HP3.out with ⟨q, _⟩ | ⟨_, p, F, rfl, hd, hF, hasc, _⟩
    · exact absurd he q
    have HD := Lib.hid hd
    have HF := Lib.hid hF
    have HA := Lib.hid hasc
    clear hd hF hasc HP3
    have HE := Lib.hid he
    clear he
    go_wp2_with fail
    refine (refOpen A c fs room _ w3 (HX.out.still (K2.out.trans K3.out)) hl HR.out).mono ?_
    rintro e w4 (⟨q, _⟩ | ⟨_, q, G, rfl, hg, hG, k4⟩)
    · exact absurd HE.out q
    have HG := Lib.hid hg
    have HGl := Lib.hid hG
    have K4 := Lib.hid k4
    clear hg hG k4
    go_wp2_with fail
    refine (sameFiles A2 A c2 c _ _ fs fs _ _ w4 (O2.out.fls.still (K3.out.trans K4.out)) (HX.out.still ((K2.out.trans K3.out).trans K4.out)) rfl rfl (by omega) (by omega)).mono ?_
    rintro e w5 ⟨rfl, k5⟩
    rw [(sameB_iff fs fs).2 rfl]
    have K5 := Lib.hid k5
    clear k5
    obtain ⟨css, hcl, hwip⟩ := (O2.out.still ((K3.out.trans K4.out).trans K5.out)).wip
    have HW := Lib.hid hwip
    have HCl := Lib.hid hcl
    clear hwip hcl
    have hln : fs.length ≤ 9223372036854775806 := by omega
    generalize hn : fs.length = n at *
    have HN := Lib.hid hn
    clear hn
    go_wp2
    go_loopw [46] (fun v wr => ∃ j : Nat, j ≤ n ∧ v = .int .i64 j ∧ Hid (FlsWip wr (fun k => w1.heap.size ≤ k ∧ k < w2.heap.size) (.slice A2 n c2) css) ∧ Hid (Kept (fun k => w1.heap.size ≤ k ∧ k < w2.heap.size) w5 wr)) (fun v _ => n - (intOf v).toNat)
    case atStart => exact ⟨0, Nat.zero_le _, rfl, HW, Lib.hid (Kept.refl _ _)⟩
    case round =>
      obtain ⟨j, hj, rfl, HWr, HKr⟩ := hrel
      by_cases hlt : j < n
      · have hjc : j < css.length := by rw [HCl.out]; exact hlt
        obtain ⟨x, B, m, d, hc, _, _⟩ := HWr.out.el j hjc
        have HC := Lib.hid hc
        clear hc
        obtain ⟨g, o, rfl, hm, _, y1⟩ := HWr.out.at_ hjc HC.out
        have hji : (j : Int) < (n : Int) := by omega
        have hj0 : (0 : Int) ≤ (j : Int) := by omega
        go_wp2
        go_loopw [55] (fun v wx => ∃ k : Nat, k ≤ m ∧ v = .int .i64 k ∧ Hid (FlsWip wx (fun k => w1.heap.size ≤ k ∧ k < w2.heap.size) (.slice (some ⟨g, o, none⟩) n c2) css) ∧ Hid (Kept (fun k => w1.heap.size ≤ k ∧ k < w2.heap.size) w5 wx)) (fun v _ => m - (intOf v).toNat)
        case atStart => exact ⟨0, Nat.zero_le _, rfl, HWr, HKr⟩
        case round =>
          obtain ⟨k, hk, rfl, HWx, HKx⟩ := hrel
          clear y1
          obtain ⟨g', o', e', _, hw, y2⟩ := HWx.out.at_ hjc HC.out
          injection e' with e'
          injection e' with e1 e2
          subst e1 e2
          by_cases hlt2 : k < m
          · obtain ⟨gB, cur, u, rfl, hFB, hbB, z0, zf⟩ := hw.at_ hlt2
            have hki : (k : Int) < (m : Int) := by omega
            have hk0 : (0 : Int) ≤ (k : Int) := by omega
            have HB := Lib.hid hbB
            have HFB := Lib.hid hFB
            clear hbB hFB hw
            go_wp2
            go_roundw
            case rel => exact ⟨k + 1, by omega, by go_num, Lib.hid (HWx.out.set HB.out k _), Lib.hid (HKx.out.setCell (p := ⟨gB, k, none⟩) (fun _ => HFB.out) _)⟩
            case measure => simp [intOf]; omega
          · obtain rfl : k = m := by omega
            clear hw
            go_wp2
            go_roundw
            case rel => exact ⟨j + 1, by omega, by go_num, HWx, HKx⟩
            case measure => simp [intOf]; omega
      · obtain rfl : j = n := by omega
        have DI : DInv (openS fs room) := openS_inv (by have := HT.out; omega) HA.out
        have hsum : sumF (openS fs room).files = totLen fs := by
          unfold openS sumF totLen
          rw [List.map_map]
          rfl
        have hleft : (openS fs room).left [] 0 = fs := by
          rw [left_nil DI rfl]
          unfold DiskS.seen openS
          rw [List.map_map]
          exact List.map_id fs
        have hfl : (openS fs room).files.length = j := by
          rw [← HN.out]
          exact List.length_map _
        have hsafe : ∀ f ∈ (openS fs room).files, f.safe.length ≤ 140737488351232 := fun f hf => by
          have h1 := mem_le_sum _ hf
          obtain ⟨f0, _, rfl⟩ := List.mem_map.1 hf
          have h2 := HT.out
          have h3 : (FlS.file f0).safe.length = (FlS.file f0).data.length := rfl
          omega
        have HDr := Lib.hid ((HD.out.keep (K4.out.trans K5.out) (fun _ _ a => a)).keep HKr.out (fun k a b => by have h1 := HF.out k a; have h2 := b.2; omega))
        have HGr := Lib.hid ((HG.out.keep K5.out (fun _ _ a => a)).keep HKr.out (fun k a b => by have h1 := HGl.out k a; have h2 := K3.out.size; have h3 := b.2; omega))
        have hZ1 := K1.out.size
        have HXr := Lib.hid ((HX.out.still (((K2.out.trans K3.out).trans K4.out).trans K5.out)).keep HKr.out (fun k _ a b => by have h2 := b.1; have h3 : k < w.heap.size := a; omega))
        have KR := Lib.hid ((((K2.out.trans K3.out).trans K4.out).trans K5.out).trans2 HKr.out (fun k a b => by have h2 := b.1; omega))
        have HLeft := Lib.hid hleft
        have HFl := Lib.hid hfl
        have HSafe := Lib.hid hsafe
        have HSum := Lib.hid hsum
        clear hleft hfl hsafe hsum DI hZ1
        go_wp2_with fail
        refine (diskCrash F (fun _ => True) p j (openS fs room) wr none 0 [] 0 HDr.out HA.out (.inl rfl) (by decide) (by rw [HFl.out]; omega) (by rw [HFl.out]; show j + 0 < maxLen; unfold maxLen; omega) (fun x hx => by cases hx) HSafe.out).mono ?_
        rw [HLeft.out]
        rintro e w6 ⟨A6, c6, rfl, o6, k6⟩
        have O6 := Lib.hid o6
        have K6 := Lib.hid k6
        clear o6 k6
        rw [HN.out] at O6 ⊢
        go_wp2_with fail
        refine (sameFiles A6 A c6 c _ _ fs fs _ _ w6 (FlsOwn.fls (by rw [HN.out]; exact O6.out)) (HXr.out.still K6.out) HN.out HN.out (by rw [HN.out]; omega) (by rw [HN.out]; omega)).mono ?_
        rintro e w7 ⟨rfl, k7⟩
        rw [(sameB_iff fs fs).2 rfl]
        have K7 := Lib.hid k7
        clear k7
        go_wp2_with fail
        refine (diskPending F p j _ w7 (HDr.out.keep (K6.out.trans K7.out) (fun _ _ a => a))).mono ?_
        rintro e w8 ⟨rfl, rfl⟩
        rw [show (openS fs room).pend.length = 0 from rfl]
        go_wp2_with fail
        refine (diskUsed F p j _ w7 (HDr.out.keep (K6.out.trans K7.out) (fun _ _ a => a))).mono ?_
        rintro e w8 ⟨rfl, rfl⟩
        rw [show (openS fs room).used = wrap64 (totLen fs : Int) from IntWalk.i64_left _]
        go_wp2_with fail
        refine (refUsed G q _ w7 (HGr.out.keep (K6.out.trans K7.out) (fun _ _ a => a))).mono ?_
        rintro e w8 ⟨rfl, rfl⟩
        rw [HSum.out]
        go_wp2
        go_ret
        exact ⟨rfl, (KR.out.trans K6.out).trans K7.out⟩
  · rcases HP3.out with ⟨_, rfl, _⟩ | ⟨q, _⟩
    case inr => exact absurd q he
    have HE := Lib.hid he
    clear he HP3
    go_wp2_with fail
    refine (refOpen A c fs room _ w3 (HX.out.still (K2.out.trans K3.out)) hl HR.out).mono ?_
    rintro e w4 (⟨_, rfl, k4⟩ | ⟨q, _⟩)
    case inr => exact absurd q HE.out
    have K4 := Lib.hid k4
    clear k4 HE
    generalize openErr fs [] = r at *
    go_wp2_with fail
    refine (sameFiles A2 A c2 c _ _ fs fs _ _ w4 (O2.out.fls.still (K3.out.trans K4.out)) (HX.out.still ((K2.out.trans K3.out).trans K4.out)) rfl rfl (by omega) (by omega)).mono ?_
    rintro e w5 ⟨rfl, k5⟩
    rw [(sameB_iff fs fs).2 rfl]
    have K5 := Lib.hid k5
    clear k5
    obtain ⟨css, hcl, hwip⟩ := (O2.out.still ((K3.out.trans K4.out).trans K5.out)).wip
    have HW := Lib.hid hwip
    have HCl := Lib.hid hcl
    clear hwip hcl
    have hln : fs.length ≤ 9223372036854775806 := by omega
    generalize hn : fs.length = n at *
    have HN := Lib.hid hn
    clear hn
    go_wp2
    go_loopw [46] (fun v wr => ∃ j : Nat, j ≤ n ∧ v = .int .i64 j ∧ Hid (FlsWip wr (fun k => w1.heap.size ≤ k ∧ k < w2.heap.size) (.slice A2 n c2) css) ∧ Hid (Kept (fun k => w1.heap.size ≤ k ∧ k < w2.heap.size) w5 wr)) (fun v _ => n - (intOf v).toNat)
    case atStart => exact ⟨0, Nat.zero_le _, rfl, HW, Lib.hid (Kept.refl _ _)⟩
    case round =>
      obtain ⟨j, hj, rfl, HWr, HKr⟩ := hrel
      by_cases hlt : j < n
      · have hjc : j < css.length := by rw [HCl.out]; exact hlt
        obtain ⟨x, B, m, d, hc, _, _⟩ := HWr.out.el j hjc
        have HC := Lib.hid hc
        clear hc
        obtain ⟨g, o, rfl, hm, _, y1⟩ := HWr.out.at_ hjc HC.out
        have hji : (j : Int) < (n : Int) := by omega
        have hj0 : (0 : Int) ≤ (j : Int) := by omega
        go_wp2
        go_loopw [55] (fun v wx => ∃ k : Nat, k ≤ m ∧ v = .int .i64 k ∧ Hid (FlsWip wx (fun k => w1.heap.size ≤ k ∧ k < w2.heap.size) (.slice (some ⟨g, o, none⟩) n c2) css) ∧ Hid (Kept (fun k => w1.heap.size ≤ k ∧ k < w2.heap.size) w5 wx)) (fun v _ => m - (intOf v).toNat)
        case atStart => exact ⟨0, Nat.zero_le _, rfl, HWr, HKr⟩
        case round =>
          obtain ⟨k, hk, rfl, HWx, HKx⟩ := hrel
          clear y1
          obtain ⟨g', o', e', _, hw, y2⟩ := HWx.out.at_ hjc HC.out
          injection e' with e'
          injection e' with e1 e2
          subst e1 e2
          by_cases hlt2 : k < m
          · obtain ⟨gB, cur, u, rfl, hFB, hbB, z0, zf⟩ := hw.at_ hlt2
            have hki : (k : Int) < (m : Int) := by omega
            have hk0 : (0 : Int) ≤ (k : Int) := by omega
            have HB := Lib.hid hbB
            have HFB := Lib.hid hFB
            clear hbB hFB hw
            go_wp2
            go_roundw
            case rel => exact ⟨k + 1, by omega, by go_num, Lib.hid (HWx.out.set HB.out k _), Lib.hid (HKx.out.setCell (p := ⟨gB, k, none⟩) (fun _ => HFB.out) _)⟩
            case measure => simp [intOf]; omega
          · obtain rfl : k = m := by omega
            clear hw
            go_wp2
            go_roundw
            case rel => exact ⟨j + 1, by omega, by go_num, HWx, HKx⟩
            case measure => simp [intOf]; omega
      · obtain rfl : j = n := by omega
        have hZ1 := K1.out.size
        have KR := Lib.hid ((((K2.out.trans K3.out).trans K4.out).trans K5.out).trans2 HKr.out (fun k a b => by have h2 := b.1; omega))
        clear hZ1
        go_wp2
        go_ret
        exact ⟨rfl, KR.out⟩

end Go.Proofs.Ytnlmkfncdklcdaa
