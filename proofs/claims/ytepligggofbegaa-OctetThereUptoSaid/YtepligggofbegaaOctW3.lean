/-
  octet.Writer's Bit.
-/
import Derived.Test.YtepligggofbegaaOctW2
import Derived.Deep.CutRange
import Derived.Deep.CutBlock
import Derived.BigRegion
namespace Go.Proofs.Ytepligggofbegaa
open Go.RowKit

theorem last_get (bs : List UInt8) (h : bs ≠ []) : bs[bs.length - 1]'(by have := List.length_pos_iff.2 h; omega) = bs.getLastD 0 := by
  rw [← List.getLast_eq_getElem h, List.getLastD_eq_getLast?, List.getLast?_eq_some_getLast h]
  rfl
theorem last_set (bs : List UInt8) (h : bs ≠ []) (x : UInt8) : bs.set (bs.length - 1) x = bs.dropLast ++ [x] := by
  have := List.dropLast_concat_getLast h
  conv => lhs; rw [← this]
  rw [List.set_append_right _ _ (by simp)]
  simp

theorem shl1 (k : Nat) (hk : k ≤ 7) : Op.shift .shl .u8 1 .i64 (k : Int) = pure (.int .u8 ((2 ^ k : Nat) : Int)) := by
  rcases (by omega : k = 0 ∨ k = 1 ∨ k = 2 ∨ k = 3 ∨ k = 4 ∨ k = 5 ∨ k = 6 ∨ k = 7) with rfl | rfl | rfl | rfl | rfl | rfl | rfl | rfl <;> rfl
theorem or_bit (x : UInt8) (k : Nat) (hk : k ≤ 7) (hx : x.toNat < 2 ^ k) : bits .or .u8 (x.toNat : Int) ((2 ^ k : Nat) : Int) = ((setBit x k true).toNat : Int) := by
  rw [setBit_val x k true (by omega) hx]
  have h2 : (2 : Nat) ^ k * 2 ≤ 256 := by
    have : (2 : Nat) ^ (k + 1) ≤ 2 ^ 8 := Nat.pow_le_pow_right (by decide) (by omega)
    rwa [Nat.pow_succ] at this
  have h1 : (BitVec.ofInt 8 (x.toNat : Int)).toNat = x.toNat := by
    rw [BitVec.toNat_ofInt]
    omega
  have h3 : (BitVec.ofInt 8 ((2 ^ k : Nat) : Int)).toNat = 2 ^ k := by
    rw [BitVec.toNat_ofInt]
    omega
  show IntKind.u8.wrap ((BitVec.ofInt 8 (x.toNat : Int) ||| BitVec.ofInt 8 ((2 ^ k : Nat) : Int)).toNat : Int) = _
  rw [BitVec.toNat_or, h1, h3, Nat.or_comm, nat_join k (2 ^ k) x.toNat (Nat.mod_self _) hx, IntKind.wrap_u8]
  simp only [if_true]
  omega

set_option maxHeartbeats 800000 in
theorem wsBit_in (w : World) (F : Nat → Prop) (p : Nat) (bs : List UInt8) (k : Nat) (h : WrAt w F p bs (k : Nat)) (hk1 : 1 ≤ k) (hk7 : k ≤ 7) (hne : bs ≠ []) (hlast : (bs.getLastD 0).toNat < 2 ^ k) (hn : bs.length ≤ 140737488355328) :
    Calls Try.prog 35 #[.pointer (some ⟨p, 0, none⟩), .bool true] w fun e w' => e = .returned (.tuple #[]) ∧ WrAt w' F p (bs.dropLast ++ [setBit (bs.getLastD 0) k true]) (k + 1 : Nat) ∧ Kept F w w' := by
  obtain ⟨sv, hblk, hob, hp⟩ := h
  obtain ⟨A, cap, rfl, hcap, hcm, _⟩ := Own.form hob
  have hlp : 0 < bs.length := List.length_pos_iff.2 hne
  obtain ⟨g, rfl, hg, d0, d1, d2⟩ := OB.store hob (j := bs.length - 1) (by omega) (setBit (bs.getLastD 0) k true)
  rw [last_get bs hne] at d0
  rw [last_set bs hne] at d2
  generalize bs.getLastD 0 = x at d0 d2 hlast ⊢
  have c0 : w.cell? ⟨p, 0, none⟩ = some (.slice (some ⟨g, 0, none⟩) bs.length cap) := hblk.cell 0
  have c1 : w.cell? ⟨p, 1, none⟩ = some (.int .i64 (k : Nat)) := hblk.cell 1
  have f1 := hblk.frozen 1
  have HB := Lib.hid hblk
  have HO := Lib.hid hob
  have D2 := Lib.hid d2
  have e8 : ((k : Int) == 8) = false := by simp; omega
  have e0 : ((k : Int) == 0) = false := by simp; omega
  clear hblk hob d2 hcm
  have hw1 : IntKind.i64.wrap ((bs.length : Int) - 1) = (bs.length : Int) - 1 := IntWalk.i64_in _ (by omega)
  have hw2 : 0 ≤ (bs.length : Int) - 1 := by omega
  have hw3 : ((bs.length : Int) - 1).toNat = bs.length - 1 := by omega
  have hw4 : (bs.length : Int) - 1 < (bs.length : Int) := by omega
  have HV : Hid (bits .or .u8 (x.toNat : Int) (2 ^ k % 256) = ((setBit x k true).toNat : Int)) := Lib.hid (by
    rw [← or_bit x k hk7 hlast]
    have h2 : (2 : Nat) ^ k * 2 ≤ 256 := by
      have : (2 : Nat) ^ (k + 1) ≤ 2 ^ 8 := Nat.pow_le_pow_right (by decide) (by omega)
      rwa [Nat.pow_succ] at this
    have e : (2 : Int) ^ k % 256 = ((2 ^ k : Nat) : Int) := by
      have : (2 : Int) ^ k = ((2 ^ k : Nat) : Int) := by simp
      rw [this]
      omega
    rw [e])
  clear hlast
  go_enter Try.func35, Try.ntmps35
  go_upto_region 4 with (fail)
  have hgp : g ≠ p := fun h => HO.out.ne_blk HB.out (by decide) (by subst h; rfl)
  have hpg : p ≠ g := fun h => hgp h.symm
  go_region
  go_wp2
  go_end0
  have e1 : ((k + 1 : Nat) : Int) = (k : Int) + 1 := by omega
  rw [e1]
  refine ⟨rfl, ⟨_, (HB.out.far (p := ⟨g, bs.length - 1, none⟩) hpg _).set_ 1 _, ?_, hp⟩, ((Kept.refl F w).setCell (p := ⟨g, bs.length - 1, none⟩) (fun _ => hg) _).setCell (p := ⟨p, 1, none⟩) (fun _ => hp) _ |>.drew⟩
  rw [HV.out]
  exact (D2.out.far (p := ⟨p, 1, none⟩) (fun h => by have h3 : g = p := by simpa [ownS, Value.ownBlock] using h
                                                     exact hgp h3) _).drew

set_option maxHeartbeats 800000 in
theorem wsBit_skip (w : World) (F : Nat → Prop) (p : Nat) (bs : List UInt8) (k : Nat) (h : WrAt w F p bs (k : Nat)) (hk1 : 1 ≤ k) (hk7 : k ≤ 7) :
    Calls Try.prog 35 #[.pointer (some ⟨p, 0, none⟩), .bool false] w fun e w' => e = .returned (.tuple #[]) ∧ WrAt w' F p bs (k + 1 : Nat) ∧ Kept F w w' := by
  obtain ⟨sv, hblk, hob, hp⟩ := h
  have c1 : w.cell? ⟨p, 1, none⟩ = some (.int .i64 (k : Nat)) := hblk.cell 1
  have f1 := hblk.frozen 1
  have HB := Lib.hid hblk
  have HO := Lib.hid hob
  have e8 : ((k : Int) == 8) = false := by simp; omega
  have e0 : ((k : Int) == 0) = false := by simp; omega
  clear hblk hob
  go_enter Try.func35, Try.ntmps35
  go_wp2
  go_end0
  have e1 : ((k + 1 : Nat) : Int) = (k : Int) + 1 := by omega
  rw [e1]
  exact ⟨rfl, ⟨_, HB.out.set_ 1 _, HO.out.far (p := ⟨p, 1, none⟩) (HO.out.ne_blk HB.out (by decide)) _, hp⟩, (Kept.refl F w).setCell (p := ⟨p, 1, none⟩) (fun _ => hp) _⟩

set_option maxHeartbeats 1600000 in
theorem wsBit_new (b : Bool) (w : World) (F : Nat → Prop) (p : Nat) (bs : List UInt8) (k : Int) (h : WrAt w F p bs k) (hk : k = 0 ∨ k = 8) (hF : ∀ j, w.heap.size ≤ j → F j) (hn : bs.length ≤ 140737488351232) :
    Calls Try.prog 35 #[.pointer (some ⟨p, 0, none⟩), .bool b] w fun e w' => e = .returned (.tuple #[]) ∧ WrAt w' F p (bs ++ [b01 b]) 1 ∧ Kept F w w' := by
  obtain ⟨sv, hblk, hob, hp⟩ := h
  obtain ⟨A, cap, rfl, hcap, hcm, _⟩ := Own.form hob
  have c0 : w.cell? ⟨p, 0, none⟩ = some (.slice A bs.length cap) := hblk.cell 0
  have f0 := hblk.frozen 0
  have f1 := hblk.frozen 1
  have HO := Lib.hid hob
  have HF := Lib.hid hF
  have hplt := hblk.lt
  have HN := Lib.hid (hob.ne_blk hblk (by decide))
  have HB := Lib.hid hblk
  clear hblk hob hcm hF
  rcases hk with rfl | rfl
  all_goals
    have c1 := HB.out.cell 1
    rw [show ∀ x y : Value, #[x, y][1]? = some y from fun _ _ => rfl] at c1
    go_enter Try.func35, Try.ntmps35
    go_upto_region 3 with (first | (at_builtin; refine wpList_app1 rfl (.tmp 20) (.tmp 21) rfl F (.slice A bs.length cap) bs rfl (Own.alloc HO.out _) w.heap.size 0 rfl (by simp) (by omega) (HF.out _ (by simp)) ?_; intro A1 cap1 w1 hown hcap1 hk; have hb1 := Blk.keep (Blk.alloc HB.out _) hk HN.out; have c2 : w1.cell? ⟨p, 0, none⟩ = some (.slice A bs.length cap) := hb1.cell 0; have c3 : ∃ kk, w1.cell? ⟨p, 1, none⟩ = some (.int .i64 kk) := ⟨_, hb1.cell 1⟩; have f2 := hb1.frozen 0; have f3 := hb1.frozen 1; have HB1 := Lib.hid hb1; have HO1 := Lib.hid hown; have HK1 := Lib.hid hk; clear hb1 hown hk; obtain ⟨kk, c3⟩ := c3))
    have B2 := Lib.hid ((HB1.out.set_ 0 (.slice A1 (bs.length + 1) cap1)).set_ 1 (.int .i64 0))
    have O2 := Lib.hid ((HO1.out.far (p := ⟨p, 0, none⟩) (HO1.out.ne_blk HB1.out (by decide)) (.slice A1 (bs.length + 1) cap1)).far (p := ⟨p, 1, none⟩) (HO1.out.ne_blk HB1.out (by decide)) (.int .i64 0))
    have K2 : Hid (Kept F w ((w1.setCell ⟨p, 0, none⟩ (.slice A1 (bs.length + 1) cap1)).setCell ⟨p, 1, none⟩ (.int .i64 0))) := Lib.hid (((((Kept.refl F w).alloc _).trans2 HK1.out (fun i _ h => HO.out.2 i h)).setCell (p := ⟨p, 0, none⟩) (fun _ => hp) _).setCell (p := ⟨p, 1, none⟩) (fun _ => hp) _)
    generalize (w1.setCell ⟨p, 0, none⟩ (.slice A1 (bs.length + 1) cap1)).setCell ⟨p, 1, none⟩ (.int .i64 0) = w2 at B2 O2 K2 ⊢
    clear c0 c1 c2 c3 f0 f1 f2 f3 HB1 HO1 HK1
    have e0 : w2.cell? ⟨p, 0, none⟩ = some (.slice A1 (bs.length + 1) cap1) := B2.out.cell 0
    have e1 : w2.cell? ⟨p, 1, none⟩ = some (.int .i64 0) := B2.out.cell 1
    have g1 := B2.out.frozen 1
    cases b
    · go_wp2
      go_end0
      exact ⟨rfl, ⟨_, B2.out.set_ 1 _, O2.out.far (p := ⟨p, 1, none⟩) (O2.out.ne_blk B2.out (by decide)) _, hp⟩, K2.out.setCell (p := ⟨p, 1, none⟩) (fun _ => hp) _⟩
    · obtain ⟨g, rfl, hg, d0, d1, d2⟩ := OB.store O2.out (j := bs.length) (by simp) 1
      rw [List.getElem_append_right (Nat.le_refl _)] at d0
      simp only [Nat.sub_self, List.getElem_cons_zero] at d0
      have d0' : w2.cell? ⟨g, bs.length, none⟩ = some (.int .u8 0) := d0
      have D2 : Hid (OB (w2.setCell ⟨g, bs.length, none⟩ (.int .u8 1)) F (.slice (some ⟨g, 0, none⟩) (bs.length + 1) cap1) (bs ++ [1])) := Lib.hid (by
        have h3 : (bs ++ [(0 : UInt8)]).set bs.length 1 = bs ++ [1] := by
          rw [List.set_append_right _ _ (Nat.le_refl _)]
          simp
        rw [h3] at d2
        exact d2)
      clear d0 d2
      have hgp : g ≠ p := fun h => O2.out.ne_blk B2.out (by decide) (by subst h; rfl)
      have hpg : p ≠ g := fun h => hgp h.symm
      have hw1 : IntKind.i64.wrap (((bs.length : Int) + 1) - 1) = (bs.length : Int) := by rw [show (((bs.length : Int) + 1) - 1) = (bs.length : Int) by omega]; exact IntWalk.i64_in _ (by omega)
      go_upto_region 4 with (fail)
      go_region
      go_wp2
      go_end0
      refine ⟨rfl, ⟨_, (B2.out.far (p := ⟨g, bs.length, none⟩) hpg _).set_ 1 _, ?_, hp⟩, (K2.out.setCell (p := ⟨g, bs.length, none⟩) (fun _ => hg) _).setCell (p := ⟨p, 1, none⟩) (fun _ => hp) _ |>.drew⟩
      exact (D2.out.far (p := ⟨p, 1, none⟩) (fun h => by have h3 : g = p := by simpa [ownS, Value.ownBlock] using h
                                                         exact hgp h3) _).drew

/-- Bit, whatever the Writer holds. -/
theorem wsBit (b : Bool) (w : World) (F : Nat → Prop) (p : Nat) (s : WS) (h : WSAt w F p s) (hF : ∀ j, w.heap.size ≤ j → F j) (hn : s.bs.length ≤ 140737488351232) :
    Calls Try.prog 35 #[.pointer (some ⟨p, 0, none⟩), .bool b] w fun e w' => e = .returned (.tuple #[]) ∧ WSAt w' F p (s.bit b) ∧ Kept F w w' := by
  obtain ⟨h1, hok⟩ := h
  have hok2 := WS.ok_bit s b hok
  by_cases h0 : s.row % 8 = 0
  · refine (wsBit_new b w F p s.bs _ h1 ?_ hF hn).mono fun _ _ ⟨a, b1, c⟩ => ⟨a, ⟨?_, hok2⟩, c⟩
    · unfold rowBits
      split
      · exact .inl rfl
      · right
        have : (s.row - 1) % 8 = 7 := by omega
        rw [this]
        rfl
    · unfold WS.bit
      rw [if_pos h0]
      have e : rowBits (s.row + 1) = 1 := by unfold rowBits; rw [if_neg (by omega)]; omega
      rw [e]
      exact b1
  · obtain ⟨h2, h3⟩ := hok h0
    have e : rowBits s.row = s.row % 8 := by unfold rowBits; rw [if_neg (by omega)]; omega
    have e2 : rowBits (s.row + 1) = s.row % 8 + 1 := by unfold rowBits; rw [if_neg (by omega)]; omega
    have e3 : s.bit b = ⟨s.bs.dropLast ++ [setBit (s.bs.getLastD 0) (s.row % 8) b], s.row + 1⟩ := by unfold WS.bit; rw [if_neg h0]
    rw [e] at h1
    cases b
    · refine (wsBit_skip w F p s.bs (s.row % 8) h1 (by omega) (by omega)).mono fun _ _ ⟨a, b1, c⟩ => ⟨a, ⟨?_, hok2⟩, c⟩
      rw [e3]
      show WrAt _ F p (s.bs.dropLast ++ [setBit (s.bs.getLastD 0) (s.row % 8) false]) (rowBits (s.row + 1) : Nat)
      rw [e2]
      have e4 : s.bs.dropLast ++ [setBit (s.bs.getLastD 0) (s.row % 8) false] = s.bs := by
        show s.bs.dropLast ++ [s.bs.getLastD 0] = s.bs
        rw [← last_get s.bs h2, ← List.getLast_eq_getElem h2]
        exact List.dropLast_concat_getLast h2
      rw [e4]
      exact b1
    · refine (wsBit_in w F p s.bs (s.row % 8) h1 (by omega) (by omega) h2 h3 (by omega)).mono fun _ _ ⟨a, b1, c⟩ => ⟨a, ⟨?_, hok2⟩, c⟩
      rw [e3]
      show WrAt _ F p (s.bs.dropLast ++ [setBit (s.bs.getLastD 0) (s.row % 8) true]) (rowBits (s.row + 1) : Nat)
      rw [e2]
      exact b1

end Go.Proofs.Ytepligggofbegaa
