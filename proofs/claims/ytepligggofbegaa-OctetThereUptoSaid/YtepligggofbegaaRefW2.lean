/-
  warrenref01.Writer's Bit.
-/
import Derived.Test.YtepligggofbegaaRefW
namespace Go.Proofs.Ytepligggofbegaa
open Go.RowKit

set_option maxHeartbeats 1600000 in
theorem rwBit0 (b : Bool) (w : World) (F : Nat → Prop) (p : Nat) (bs : List UInt8) (row : Nat) (h : ∃ sv, Blk w p 47 #[sv, .int .i64 (row : Int)] ∧ OB w F sv bs ∧ F p) (hr0 : row % 8 = 0) (hrow : row ≤ 9223372036854775000) (hF : ∀ j, w.heap.size ≤ j → F j) (hn : bs.length ≤ 140737488351232) :
    Calls Try.prog 46 #[.pointer (some ⟨p, 0, none⟩), .bool b] w fun e w' => e = .returned (.tuple #[]) ∧ (∃ sv, Blk w' p 47 #[sv, .int .i64 ((row : Int) + 1)] ∧ OB w' F sv (bs ++ [b01 b]) ∧ F p) ∧ Kept F w w' := by
  obtain ⟨sv, hblk, hob, hp⟩ := h
  obtain ⟨A, cap, rfl, hcap, hcm, _⟩ := Own.form hob
  have c0 : w.cell? ⟨p, 0, none⟩ = some (.slice A bs.length cap) := hblk.cell 0
  have c1 : w.cell? ⟨p, 1, none⟩ = some (.int .i64 (row : Int)) := hblk.cell 1
  have f0 := hblk.frozen 0
  have HO := Lib.hid hob
  have HF := Lib.hid hF
  have hplt := hblk.lt
  have HN := Lib.hid (hob.ne_blk hblk (by decide))
  have HB := Lib.hid hblk
  clear hblk hob hcm hF
  have hm : (row : Int) % 8 = 0 := by omega
  go_enter Try.func46, Try.ntmps46
  go_upto_region 2 with (first | (at_builtin; refine wpList_app1 rfl (.tmp 16) (.tmp 17) rfl F (.slice A bs.length cap) bs rfl (Own.alloc HO.out _) w.heap.size 0 rfl (by simp) (by omega) (HF.out _ (by simp)) ?_; intro A1 cap1 w1 hown hcap1 hk; have hb1 := Blk.keep (Blk.alloc HB.out _) hk HN.out; have c2 : w1.cell? ⟨p, 0, none⟩ = some (.slice A bs.length cap) := hb1.cell 0; have f2 := hb1.frozen 0; have HB1 := Lib.hid hb1; have HO1 := Lib.hid hown; have HK1 := Lib.hid hk; clear hb1 hown hk))
  have B2 := Lib.hid (HB1.out.set_ 0 (.slice A1 (bs.length + 1) cap1))
  have O2 := Lib.hid (HO1.out.far (p := ⟨p, 0, none⟩) (HO1.out.ne_blk HB1.out (by decide)) (.slice A1 (bs.length + 1) cap1))
  have K2 : Hid (Kept F w (w1.setCell ⟨p, 0, none⟩ (.slice A1 (bs.length + 1) cap1))) := Lib.hid ((((Kept.refl F w).alloc _).trans2 HK1.out (fun i _ h => HO.out.2 i h)).setCell (p := ⟨p, 0, none⟩) (fun _ => hp) _)
  generalize w1.setCell ⟨p, 0, none⟩ (.slice A1 (bs.length + 1) cap1) = w2 at B2 O2 K2 ⊢
  clear c0 c1 c2 f0 f2 HB1 HO1 HK1 hcap1 HO HB HN
  have hlen2 : (bs ++ [(0 : UInt8)]).length = bs.length + 1 := by simp
  have hne2 : bs ++ [(0 : UInt8)] ≠ [] := by simp
  have HX : Hid ((bs ++ [(0 : UInt8)]).getLastD 0 = 0) := Lib.hid (by simp)
  have HT0 : Hid (∀ b, bs ++ [b01 b] = (bs ++ [(0 : UInt8)]).dropLast ++ [setBit 0 0 b]) := Lib.hid (by intro b; cases b <;> simp [b01, setBit] <;> rfl)
  rw [← hlen2] at B2 O2 ⊢
  have hlen3 : (bs ++ [(0 : UInt8)]).length ≤ 140737488351233 := by omega
  have hlen4 : 1 ≤ (bs ++ [(0 : UInt8)]).length := by omega
  clear hlen2 hn
  generalize bs ++ [(0 : UInt8)] = bs2 at B2 O2 HT0 HX hne2 hlen3 hlen4 ⊢
  have HD : Hid (bs2.dropLast ++ [setBit 0 0 false] = bs2) := Lib.hid (by
    have h5 := List.dropLast_concat_getLast hne2
    have h6 := HX.out
    rw [List.getLastD_eq_getLast?, List.getLast?_eq_some_getLast hne2] at h6
    simp only [Option.getD_some] at h6
    rw [h6] at h5
    exact h5)
  obtain ⟨r, HRr, hr7⟩ : ∃ r : Nat, Hid (r = 0) ∧ r ≤ 7 := ⟨0, Lib.hid rfl, by omega⟩
  have hm2 : (row : Int) % 8 = (r : Int) := by rw [HRr.out]; exact hm
  have HT : Hid (∀ b, bs ++ [b01 b] = bs2.dropLast ++ [setBit 0 r b]) := Lib.hid (by rw [HRr.out]; exact HT0.out)
  have hlast : (0 : UInt8).toNat < 2 ^ r := by rw [HRr.out]; decide
  have hwm : r < 8 := by omega
  have HD2 : Hid (bs2.dropLast ++ [setBit 0 r false] = bs2) := Lib.hid (by rw [HRr.out]; exact HD.out)
  clear hm HD HRr hr0 HT0
  obtain ⟨x, HXx⟩ : ∃ x : UInt8, Hid ((0 : UInt8) = x) := ⟨0, Lib.hid rfl⟩
  have HX2 : Hid (bs2.getLastD 0 = x) := Lib.hid (HX.out.trans HXx.out)
  rw [HXx.out] at hlast HD2 HT
  clear HXx HX
  have HX := HX2
  clear HX2
  have c0 : w2.cell? ⟨p, 0, none⟩ = some (.slice A1 bs2.length cap1) := B2.out.cell 0
  have c1 : w2.cell? ⟨p, 1, none⟩ = some (.int .i64 (row : Int)) := B2.out.cell 1
  have f1 := B2.out.frozen 1
  cases b
  · go_wp2
    go_end0
    first | rw [HT.out false, HD2.out] | rw [HD2.out]
    exact ⟨rfl, ⟨_, B2.out.set_ 1 _, O2.out.far (p := ⟨p, 1, none⟩) (O2.out.ne_blk B2.out (by decide)) _, hp⟩, K2.out.setCell (p := ⟨p, 1, none⟩) (fun _ => hp) _⟩
  · go_wp2
    go_loop [4, 5] (fun v i => ∃ q : Nat, q ≤ r ∧ i = .int .i64 q ∧ v = .int .u8 ((2 ^ q : Nat) : Int)) (fun _ i => r - (intOf i).toNat)
    case atStart => exact ⟨0, Nat.zero_le _, rfl, rfl⟩
    case round =>
      obtain ⟨q, hq, rfl, rfl⟩ := hrel
      by_cases hlt : q < r
      · have hq2 : (2 : Nat) ^ q * 2 ≤ 128 := by
          have : (2 : Nat) ^ (q + 1) ≤ 2 ^ 7 := Nat.pow_le_pow_right (by decide) (by omega)
          rwa [Nat.pow_succ] at this
        have HQ := Lib.hid (Nat.pow_succ 2 q)
        generalize (2 : Nat) ^ q = P at hq2 HQ ⊢
        go_wp2
        go_round
        case rel => exact ⟨q + 1, by omega, by go_num, by rw [HQ.out]; go_num⟩
        case measure => simp [intOf]; omega
      · obtain rfl : q = r := by omega
        have hsum : x.toNat + 2 ^ q ≤ 255 := by
          have : (2 : Nat) ^ (q + 1) ≤ 2 ^ 8 := Nat.pow_le_pow_right (by decide) (by omega)
          rw [Nat.pow_succ] at this
          omega
        have HS := Lib.hid (setBit_val x q true (by omega) hlast)
        rw [if_pos rfl] at HS
        generalize (2 : Nat) ^ q = P at hsum HS ⊢
        obtain ⟨g, rfl, hg, d0, d1, d2⟩ := OB.store O2.out (j := bs2.length - 1) (by omega) (setBit x q true)
        rw [last_get bs2 hne2, HX.out] at d0
        rw [last_set bs2 hne2, HS.out] at d2
        have D2 := Lib.hid d2
        have hgp : g ≠ p := fun h => O2.out.ne_blk B2.out (by decide) (by subst h; rfl)
        have hpg : p ≠ g := fun h => hgp h.symm
        have hw1 : IntKind.i64.wrap ((bs2.length : Int) - 1) = (bs2.length : Int) - 1 := IntWalk.i64_in _ (by omega)
        have hw2 : 0 ≤ (bs2.length : Int) - 1 := by omega
        have hw3 : ((bs2.length : Int) - 1).toNat = bs2.length - 1 := by omega
        have hw4 : (bs2.length : Int) - 1 < (bs2.length : Int) := by omega
        have hw5 : IntKind.u8.wrap ((x.toNat : Int) + (P : Int)) = (x.toNat : Int) + (P : Int) := by rw [IntKind.wrap_u8]; omega
        clear d2
        go_upto_region 8 with (fail)
        go_region
        go_wp2
        go_end0
        try rw [HT.out true]
        refine ⟨rfl, ⟨_, (B2.out.far (p := ⟨g, bs2.length - 1, none⟩) hpg _).set_ 1 _, ?_, hp⟩, (K2.out.setCell (p := ⟨g, bs2.length - 1, none⟩) (fun _ => hg) _).setCell (p := ⟨p, 1, none⟩) (fun _ => hp) _ |>.drew⟩
        have h5 := (D2.out.far (p := ⟨p, 1, none⟩) (fun h => hgp (by simpa [ownS, Value.ownBlock] using h)) (.int .i64 ((row : Int) + 1))).drew
        rw [Int.natCast_add] at h5
        exact h5

set_option maxHeartbeats 1600000 in
theorem rwBitK (b : Bool) (w : World) (F : Nat → Prop) (p : Nat) (bs2 : List UInt8) (row r : Nat) (h : ∃ sv, Blk w p 47 #[sv, .int .i64 (row : Int)] ∧ OB w F sv bs2 ∧ F p) (hr : row % 8 = r) (hr0 : 1 ≤ r) (hrow : row ≤ 9223372036854775000) (hlen3 : bs2.length ≤ 140737488351232) (hne2 : bs2 ≠ []) (hl0 : (bs2.getLastD 0).toNat < 2 ^ r) :
    Calls Try.prog 46 #[.pointer (some ⟨p, 0, none⟩), .bool b] w fun e w' => e = .returned (.tuple #[]) ∧ (∃ sv, Blk w' p 47 #[sv, .int .i64 ((row : Int) + 1)] ∧ OB w' F sv (bs2.dropLast ++ [setBit (bs2.getLastD 0) r b]) ∧ F p) ∧ Kept F w w' := by
  obtain ⟨sv, hblk, hob, hp⟩ := h
  obtain ⟨A1, cap1, rfl, hcap, hcm, _⟩ := Own.form hob
  have hlen4 : 1 ≤ bs2.length := List.length_pos_iff.2 hne2
  have hz1 : w.cell? ⟨p, 1, none⟩ = some (.int .i64 (row : Int)) := hblk.cell 1
  have O2 := Lib.hid hob
  have B2 := Lib.hid hblk
  have K2 := Lib.hid (Kept.refl F w)
  clear hblk hob hcm
  have hwm : r < 8 := by omega
  have hm2 : (row : Int) % 8 = (r : Int) := by omega
  have hm3 : ((r : Int) == 0) = false := by simp; omega
  obtain ⟨x, HX⟩ : ∃ x : UInt8, Hid (bs2.getLastD 0 = x) := ⟨_, Lib.hid rfl⟩
  have hlast : x.toNat < 2 ^ r := by rw [← HX.out]; exact hl0
  have HD2 : Hid (bs2.dropLast ++ [setBit x r false] = bs2) := Lib.hid (by
    have h5 := List.dropLast_concat_getLast hne2
    have h6 := HX.out
    rw [List.getLastD_eq_getLast?, List.getLast?_eq_some_getLast hne2] at h6
    simp only [Option.getD_some] at h6
    rw [h6] at h5
    exact h5)
  have HT : Hid (∀ b, bs2.dropLast ++ [setBit x r b] = bs2.dropLast ++ [setBit x r b]) := Lib.hid (fun _ => rfl)
  rw [HX.out]
  clear hr hl0
  go_enter Try.func46, Try.ntmps46
  go_upto_region 2 with (fail)
  obtain ⟨w2, rfl⟩ : ∃ w2 : World, w2 = w := ⟨_, rfl⟩
  have c0 : w2.cell? ⟨p, 0, none⟩ = some (.slice A1 bs2.length cap1) := B2.out.cell 0
  have c1 : w2.cell? ⟨p, 1, none⟩ = some (.int .i64 (row : Int)) := B2.out.cell 1
  have f1 := B2.out.frozen 1
  cases b
  · go_wp2
    go_end0
    first | rw [HT.out false, HD2.out] | rw [HD2.out]
    exact ⟨rfl, ⟨_, B2.out.set_ 1 _, O2.out.far (p := ⟨p, 1, none⟩) (O2.out.ne_blk B2.out (by decide)) _, hp⟩, K2.out.setCell (p := ⟨p, 1, none⟩) (fun _ => hp) _⟩
  · go_wp2
    go_loop [4, 5] (fun v i => ∃ q : Nat, q ≤ r ∧ i = .int .i64 q ∧ v = .int .u8 ((2 ^ q : Nat) : Int)) (fun _ i => r - (intOf i).toNat)
    case atStart => exact ⟨0, Nat.zero_le _, rfl, rfl⟩
    case round =>
      obtain ⟨q, hq, rfl, rfl⟩ := hrel
      by_cases hlt : q < r
      · have hq2 : (2 : Nat) ^ q * 2 ≤ 128 := by
          have : (2 : Nat) ^ (q + 1) ≤ 2 ^ 7 := Nat.pow_le_pow_right (by decide) (by omega)
          rwa [Nat.pow_succ] at this
        have HQ := Lib.hid (Nat.pow_succ 2 q)
        generalize (2 : Nat) ^ q = P at hq2 HQ ⊢
        go_wp2
        go_round
        case rel => exact ⟨q + 1, by omega, by go_num, by rw [HQ.out]; go_num⟩
        case measure => simp [intOf]; omega
      · obtain rfl : q = r := by omega
        have hsum : x.toNat + 2 ^ q ≤ 255 := by
          have : (2 : Nat) ^ (q + 1) ≤ 2 ^ 8 := Nat.pow_le_pow_right (by decide) (by omega)
          rw [Nat.pow_succ] at this
          omega
        have HS := Lib.hid (setBit_val x q true (by omega) hlast)
        rw [if_pos rfl] at HS
        generalize (2 : Nat) ^ q = P at hsum HS ⊢
        obtain ⟨g, rfl, hg, d0, d1, d2⟩ := OB.store O2.out (j := bs2.length - 1) (by omega) (setBit x q true)
        rw [last_get bs2 hne2, HX.out] at d0
        rw [last_set bs2 hne2, HS.out] at d2
        have D2 := Lib.hid d2
        have hgp : g ≠ p := fun h => O2.out.ne_blk B2.out (by decide) (by subst h; rfl)
        have hpg : p ≠ g := fun h => hgp h.symm
        have hw1 : IntKind.i64.wrap ((bs2.length : Int) - 1) = (bs2.length : Int) - 1 := IntWalk.i64_in _ (by omega)
        have hw2 : 0 ≤ (bs2.length : Int) - 1 := by omega
        have hw3 : ((bs2.length : Int) - 1).toNat = bs2.length - 1 := by omega
        have hw4 : (bs2.length : Int) - 1 < (bs2.length : Int) := by omega
        have hw5 : IntKind.u8.wrap ((x.toNat : Int) + (P : Int)) = (x.toNat : Int) + (P : Int) := by rw [IntKind.wrap_u8]; omega
        clear d2
        go_upto_region 8 with (fail)
        go_region
        go_wp2
        go_end0
        try rw [HT.out true]
        refine ⟨rfl, ⟨_, (B2.out.far (p := ⟨g, bs2.length - 1, none⟩) hpg _).set_ 1 _, ?_, hp⟩, (K2.out.setCell (p := ⟨g, bs2.length - 1, none⟩) (fun _ => hg) _).setCell (p := ⟨p, 1, none⟩) (fun _ => hp) _ |>.drew⟩
        have h5 := (D2.out.far (p := ⟨p, 1, none⟩) (fun h => hgp (by simpa [ownS, Value.ownBlock] using h)) (.int .i64 ((row : Int) + 1))).drew
        rw [Int.natCast_add] at h5
        exact h5

theorem rwBit (b : Bool) (w : World) (F : Nat → Prop) (p : Nat) (s : WS) (h : RWAt w F p s) (hF : ∀ j, w.heap.size ≤ j → F j) (hn : s.bs.length ≤ 140737488351232) (hrow : s.row ≤ 9223372036854775000) :
    Calls Try.prog 46 #[.pointer (some ⟨p, 0, none⟩), .bool b] w fun e w' => e = .returned (.tuple #[]) ∧ RWAt w' F p (s.bit b) ∧ Kept F w w' := by
  obtain ⟨h1, hok⟩ := h
  have hok2 := WS.ok_bit s b hok
  by_cases h0 : s.row % 8 = 0
  · refine (rwBit0 b w F p s.bs s.row h1 h0 hrow hF hn).mono fun _ _ ⟨a, b1, c⟩ => ⟨a, ⟨?_, hok2⟩, c⟩
    unfold WS.bit
    rw [if_pos h0]
    show ∃ sv, Blk _ p 47 #[sv, .int .i64 ((s.row + 1 : Nat) : Int)] ∧ OB _ F sv (s.bs ++ [b01 b]) ∧ F p
    rw [show ((s.row + 1 : Nat) : Int) = (s.row : Int) + 1 by omega]
    exact b1
  · obtain ⟨h2, h3⟩ := hok h0
    refine (rwBitK b w F p s.bs s.row (s.row % 8) h1 rfl (by omega) hrow hn h2 h3).mono fun _ _ ⟨a, b1, c⟩ => ⟨a, ⟨?_, hok2⟩, c⟩
    unfold WS.bit
    rw [if_neg h0]
    show ∃ sv, Blk _ p 47 #[sv, .int .i64 ((s.row + 1 : Nat) : Int)] ∧ OB _ F sv (s.bs.dropLast ++ [setBit (s.bs.getLastD 0) (s.row % 8) b]) ∧ F p
    rw [show ((s.row + 1 : Nat) : Int) = (s.row : Int) + 1 by omega]
    exact b1

end Go.Proofs.Ytepligggofbegaa
