/-
  warrenref04: put, Pack, Same.
-/
import Derived.Test.YtkkfifocilnbkaaFrame1
import Derived.Deep.RegionWith
namespace Go.Proofs.Ytkkfifocilnbkaa
open Go.RowKit

set_option maxHeartbeats 400000 in
theorem refPut (A B : Option Addr) (c d n m : Nat) (bs xs : List UInt8) (F G : Nat → Prop) (w : World) (hb : OB w F (.slice A n c) bs) (hx : RB w G B xs) (hn : bs.length = n) (hm : xs.length = m) (hd : ∀ k, k < w.heap.size → G k → F k → False) (hF : ∀ k, w.heap.size ≤ k → F k) (hl : n + m ≤ 140737488355328) :
    Calls Try.prog 32 #[.slice A n c, .slice B m d] w fun e w' => ∃ A' c', e = .returned (.slice A' (n + m) c') ∧ OB w' F (.slice A' (n + m) c') (bs ++ xs) ∧ Kept F w w' := by
  subst hn hm
  have HB := Lib.hid hb
  have HX := Lib.hid hx.old
  have HD := Lib.hid hd
  have HF := Lib.hid hF
  clear hb hx hd hF
  go_enter Try.func32, Try.ntmps32
  go_wp2
  go_loopw [0, 5] (fun v i wr => ∃ (j : Nat), j ≤ xs.length ∧ i = .int .i64 j ∧ OB wr F v (bs ++ xs.take j) ∧ Kept F w wr) (fun _ i _ => xs.length - (intOf i).toNat)
  case atStart => exact ⟨0, Nat.zero_le _, rfl, by simpa using HB.out, Kept.refl _ _⟩
  case round =>
    obtain ⟨j, hj, rfl, hob, hkept⟩ := hrel
    have HO := Lib.hid hob
    have HK := Lib.hid hkept
    clear hob hkept
    by_cases hlt : j < xs.length
    · obtain ⟨A0, cap, rfl, _⟩ := Own.form HO.out
      have hl2 : (bs ++ xs.take j).length + 1 ≤ 140737488355328 := by simp; omega
      have HT : Hid (bs ++ xs.take (j + 1) = (bs ++ xs.take j) ++ [xs[j]]) := Lib.hid (by rw [List.take_succ_eq_append_getElem hlt, List.append_assoc])
      obtain ⟨g, o, rfl, _, hc⟩ := RB.at_ (Rd.keep HX.out HK.out (fun k a q r => HD.out k a q.1 r)) hlt
      have HC := Lib.hid hc
      generalize xs[j] = b at hc HT HC
      generalize bs ++ xs.take j = cur at HO hl2 HT ⊢
      go_wp2_with (at_builtin; refine wpList_app1 rfl (.tmp 12) (.tmp 17) rfl F (.slice A0 cur.length cap) cur rfl (Own.alloc HO.out _) wr.heap.size b rfl (by simp) (by omega) (HF.out _ (by have := HK.out.size; simp; omega)) ?_; intro A1 cap1 w1 hown hcap1 hk; have HO1 := Lib.hid hown; have HK1 := Lib.hid hk; clear hown hk)
      go_roundw
      case rel => exact ⟨j + 1, by omega, by go_num, by rw [HT.out]; exact HO1.out, (HK.out.alloc _).trans2 HK1.out (fun i hi h => HO.out.2 i h)⟩
      case measure => simp [intOf]; omega
    · obtain rfl : j = xs.length := by omega
      have hl2 : (xs.take xs.length) = xs := List.take_length
      rw [hl2] at HO
      obtain ⟨A0, cap, rfl, _⟩ := Own.form HO.out
      have hl3 : (bs ++ xs).length = bs.length + xs.length := List.length_append
      rw [hl3] at HO ⊢
      clear hl3
      go_wp2
      go_ret
      exact ⟨A0, cap, rfl, HO.out, HK.out⟩

def sameB (t ch : Int) (pl : List UInt8) (t' ch' : Int) (pl' : List UInt8) : Bool := t == t' && (ch == ch' && pl == pl')

set_option maxHeartbeats 800000 in
theorem refSame (t ch t' ch' : Int) (A B : Option Addr) (c d n m : Nat) (pl pl' : List UInt8) (hn : pl.length = n) (hm : pl'.length = m) (F G : Nat → Prop) (w : World) (hx : RB w F A pl) (hy : RB w G B pl') :
    Calls Try.prog 12 #[.agg #[.int .i64 t, .int .i64 ch, .slice A n c], .agg #[.int .i64 t', .int .i64 ch', .slice B m d]] w fun e w' => e = .returned (.bool (sameB t ch pl t' ch' pl')) ∧ Kept noneS w w' := by
  subst hn hm
  obtain ⟨b, HB⟩ : ∃ b, Hid (sameB t ch pl t' ch' pl' = b) := ⟨_, Lib.hid rfl⟩
  rw [HB.out]
  unfold sameB at HB
  have h1 := run_str ((w.alloc (.cells #[.int .i64 t, .int .i64 ch, .slice A pl.length c] 25)).alloc (.cells #[.int .i64 t', .int .i64 ch', .slice B pl'.length d] 25)) F A c pl ((hx.alloc _).alloc _)
  have h2 := run_str ((w.alloc (.cells #[.int .i64 t, .int .i64 ch, .slice A pl.length c] 25)).alloc (.cells #[.int .i64 t', .int .i64 ch', .slice B pl'.length d] 25)) G B d pl' ((hy.alloc _).alloc _)
  have HK : Hid (Kept noneS w ((w.alloc (.cells #[.int .i64 t, .int .i64 ch, .slice A pl.length c] 25)).alloc (.cells #[.int .i64 t', .int .i64 ch', .slice B pl'.length d] 25))) := Lib.hid (((Kept.refl _ _).alloc _).alloc _)
  clear hx hy
  rcases e1 : (t == t') with _ | _ <;> rcases e2 : (ch == ch') with _ | _ <;> rw [e1, e2] at HB
  all_goals
    have e := HB.out
    simp only [Bool.false_and, Bool.true_and] at e
    subst e
    clear HB
    go_enter Try.func12, Try.ntmps12
    go_wp2
    go_ret
    exact ⟨rfl, HK.out⟩

theorem be1_lo8 (t : Int) : be 1 t = [lo8 t] := by simp [be, lo8]

set_option maxHeartbeats 1600000 in
theorem refPackOk (t ch : Int) (A : Option Addr) (c n : Nat) (pl : List UInt8) (hl : pl.length = n) (G : Nat → Prop) (w : World) (hb : RB w G A pl) (hn : pl.length ≤ 140737488351300) (hk : knownB t = true) (hc1 : 0 ≤ ch) (hc2 : ch ≤ 65535) :
    Calls Try.prog 10 #[.agg #[.int .i64 t, .int .i64 ch, .slice A n c]] w fun e w' => ∃ A' c', e = .returned (.tuple #[.slice A' (packed t ch pl).length c', .int .i64 0]) ∧ OB w' (w.heap.size ≤ ·) (.slice A' (packed t ch pl).length c') (packed t ch pl) ∧ Kept noneS w w' := by
  subst hl
  have RB0 := Lib.hid (hb.mono (G := (· < w.heap.size)) (fun k h _ => h))
  have HBk := Lib.hid (Blk.new w 25 #[.int .i64 t, .int .i64 ch, .slice A pl.length c])
  have K0 := Lib.hid ((Kept.refl noneS w).alloc (.cells #[.int .i64 t, .int .i64 ch, .slice A pl.length c] 25))
  have hz0 : w.heap.size < (w.alloc (.cells #[.int .i64 t, .int .i64 ch, .slice A pl.length c] 25)).heap.size := by simp
  clear hb
  have hd : decide (ch < 0) = false := by simp; omega
  have hk8 : t = 1 ∨ t = 2 ∨ t = 3 ∨ t = 8 := by unfold knownB at hk; simpa [or_assoc] using hk
  clear hk
  have hwt : IntKind.u8.wrap t = ((lo8 t).toNat : Int) := lo8_wrap t
  have hq : ((t != 1) = false) ∨ ((t != 1) = true ∧ (t != 2) = false) ∨ ((t != 1) = true ∧ (t != 2) = true ∧ (t != 3) = false) ∨ ((t != 1) = true ∧ (t != 2) = true ∧ (t != 3) = true ∧ (t != 8) = false) := by
    rcases hk8 with rfl | rfl | rfl | rfl <;> decide
  clear hk8
  rcases hq with q1 | ⟨q1, q2⟩ | ⟨q1, q2, q3⟩ | ⟨q1, q2, q3, q4⟩
  all_goals
    go_enter Try.func10, Try.ntmps10
    go_upto_region 5 with (fail)
    generalize w.alloc (.cells #[.int .i64 t, .int .i64 ch, .slice A pl.length c] 25) = wa at HBk K0 hz0 ⊢
    generalize hbo : w.heap.size = bo at HBk hz0 RB0 ⊢
    have HBo := Lib.hid hbo
    clear hbo
    have t0 : wa.cell? ⟨bo, 0, none⟩ = some (.int .i64 t) := HBk.out.cell 0
    have t1 : wa.cell? ⟨bo, 1, none⟩ = some (.int .i64 ch) := HBk.out.cell 1
    go_cut [4] from 33 to 40 (fun v wx => ∃ A' c', v = .slice A' 3 c' ∧ OB wx (bo < ·) (.slice A' 3 c') (be 1 t ++ be 2 ch) ∧ Kept noneS w wx ∧ Blk wx bo 25 #[.int .i64 t, .int .i64 ch, .slice A pl.length c])
    case first =>
      go_region_held3 (fun W => W.cell? ⟨bo, 0, none⟩ = some (.int .i64 t) ∧ W.cell? ⟨bo, 1, none⟩ = some (.int .i64 ch))
        (first | exact ⟨t0, t1⟩ | exact ⟨d0, d1⟩ | exact ⟨f0, f1⟩ | go_keep)
        (first
          | (go_at_call 31; refine (refNum 2 (by decide) ch _ (by omega) (by omega)).mono ?_; rintro e w1 ⟨A1, c1, rfl, o1, k1⟩; have kA : Kept noneS wa w1 := (by first | exact (((Kept.refl noneS wa).alloc _).drew).trans k1 | exact ((Kept.refl noneS wa).drew).trans k1); have bA := HBk.out.keep kA (fun q => q.elim); have d0 : w1.cell? ⟨bo, 0, none⟩ = some (.int .i64 t) := bA.cell 0; have d1 : w1.cell? ⟨bo, 1, none⟩ = some (.int .i64 ch) := bA.cell 1; have RB1 := Lib.hid (OB.rb o1).2; have KA := Lib.hid kA; have BA := Lib.hid bA; have KN := Lib.hid k1; have zA := kA.size; clear kA bA o1 k1)
          | (refine step_appN rfl (.tmp 36) (.tmp 39) rfl (bo < ·) _ (.slice (some ⟨wa.heap.size, 0, none⟩) 1 1) [lo8 t] rfl (Own.keep0 (Own.drew (Own.lit wa 5 1 (bo < ·) #[.int .u8 ((lo8 t).toNat : Int)] 1 rfl (by decide) hz0)) KN.out (fun _ _ _ q => q.elim)) A1 c1 (be 2 ch) rfl RB1.out (by simp [be_length]) (by omega) ?_; intro A2 c2 w2 hown2 hcap2 hk2; have HO2 := Lib.hid hown2; have HK2 : Hid (Kept (bo < ·) wa w2) := Lib.hid ((KA.out.mono (S' := (bo < ·)) (fun _ _ q => q.elim)).trans2 hk2 (fun k _ q => by simp [ownS, Value.ownBlock] at q; omega)); have bB := HBk.out.keep HK2.out (fun q => by omega); have f0 : w2.cell? ⟨bo, 0, none⟩ = some (.int .i64 t) := bB.cell 0; have f1 : w2.cell? ⟨bo, 1, none⟩ = some (.int .i64 ch) := bB.cell 1; have BB := Lib.hid bB; clear hown2 hk2 bB)
          | (refine step_appN rfl (.tmp 36) (.tmp 39) rfl (bo < ·) _ (.slice (some ⟨w1.heap.size, 0, none⟩) 1 1) [lo8 t] rfl (Own.lit w1 5 1 (bo < ·) #[.int .u8 ((lo8 t).toNat : Int)] 1 rfl (by decide) (by omega)) A1 c1 (be 2 ch) rfl (RB1.out.alloc _) (by simp [be_length]) (by simp; omega) ?_; intro A2 c2 w2 hown2 hcap2 hk2; have HO2 := Lib.hid hown2; have HK2 : Hid (Kept (bo < ·) wa w2) := Lib.hid (((KA.out.mono (S' := (bo < ·)) (fun _ _ q => q.elim)).alloc _).trans2 hk2 (fun k _ q => by simp [ownS, Value.ownBlock] at q; omega)); have bB := HBk.out.keep HK2.out (fun q => by omega); have f0 : w2.cell? ⟨bo, 0, none⟩ = some (.int .i64 t) := bB.cell 0; have f1 : w2.cell? ⟨bo, 1, none⟩ = some (.int .i64 ch) := bB.cell 1; have BB := Lib.hid bB; clear hown2 hk2 bB))
      all_goals
        go_wp2_with fail
        go_meet
        case rel => exact ⟨A2, c2, by rw [be_length], by rw [be1_lo8]; exact (show 3 = 1 + (be 2 ch).length by rw [be_length]) ▸ HO2.out, (K0.out.mono (S' := (bo < ·)) (fun _ _ q => q.elim)).trans HK2.out |>.mono (S' := noneS) (fun k h q => by have := HBo.out; omega), BB.out⟩
    case rest =>
      obtain ⟨A2, c2, rfl, o2, k2, b2⟩ := hcut
      have l2 : wc.cell? ⟨bo, 2, none⟩ = some (.slice A pl.length c) := b2.cell 2
      have O2 := Lib.hid o2
      have K2 := Lib.hid k2
      have B2 := Lib.hid b2
      have z2 : bo < wc.heap.size := b2.lt
      clear o2 k2 b2 HBk K0 t0 t1 hz0 hwt
      go_wp2_with fail
      refine (refNum 4 (by decide) (pl.length : Int) wc (by omega) (by omega)).mono ?_
      rintro e w3 ⟨A3, c3, rfl, o3, k3⟩
      have RB3 := Lib.hid ((OB.rb o3).2.mono (G := fun k => wc.heap.size ≤ k ∧ k < w3.heap.size) (fun k a q => ⟨q, a⟩))
      have O3 := Lib.hid (Own.keep0 (O2.out.mono (G := fun k => (bo < k ∧ k < wc.heap.size) ∨ w3.heap.size ≤ k) (fun k a q => .inl ⟨q, a⟩)) k3 (fun _ _ _ q => q.elim))
      have K3 := Lib.hid (K2.out.trans k3)
      have B3 := Lib.hid (B2.out.keep k3 (fun q => q))
      have z3 := k3.size
      clear o3 k3 l2 O2 K2 B2
      go_wp2_with fail
      refine (refPut A2 A3 c2 c3 3 (be 4 (pl.length : Int)).length (be 1 t ++ be 2 ch) (be 4 (pl.length : Int)) _ _ w3 O3.out RB3.out (by simp [be_length]) rfl (fun k _ a b => by omega) (fun k a => .inr a) (by simp [be_length])).mono ?_
      rintro e w4 ⟨A4, c4, rfl, o4, k4⟩
      have O4 := Lib.hid (Own.mono o4 (G := (bo < ·)) (fun k _ q => by omega))
      have K4 := Lib.hid ((K3.out.mono (S' := (bo < ·)) (fun _ _ q => q.elim)).trans2 k4 (fun k _ q => by omega))
      have B4 := Lib.hid (B3.out.keep k4 (fun q => by omega))
      have z4 := k4.size
      have l4 : w4.cell? ⟨bo, 2, none⟩ = some (.slice A pl.length c) := B4.out.cell 2
      have RB4 := Lib.hid (RB0.out.keep K4.out (fun k _ a b => by omega))
      clear o4 k4 O3 K3 B3 RB3
      go_wp2_with fail
      refine (refPut A4 A c4 c _ pl.length (be 1 t ++ be 2 ch ++ be 4 (pl.length : Int)) pl _ _ w4 O4.out RB4.out (by simp [be_length]) rfl (fun k _ a b => by omega) (fun k a => by omega) (by simp [be_length]; omega)).mono ?_
      rintro e w5 ⟨A5, c5, rfl, o5, k5⟩
      have O5 := Lib.hid o5
      have K5 := Lib.hid (K4.out.trans k5)
      have z5 := k5.size
      clear o5 k5 l4 O4 K4 B4 RB4
      have e5 : 3 + (be 4 (pl.length : Int)).length + pl.length = (be 1 t ++ be 2 ch ++ be 4 (pl.length : Int) ++ pl).length := by simp [be_length]; omega
      rw [e5] at O5 ⊢
      have E6 : Hid ((be 1 t ++ be 2 ch ++ be 4 (pl.length : Int) ++ pl) ++ [(206 : UInt8)] = packed t ch pl) := Lib.hid (by unfold packed; rw [show be 1 206 = [(206 : UInt8)] from rfl])
      have E7 : Hid ((packed t ch pl).length = (be 1 t ++ be 2 ch ++ be 4 (pl.length : Int) ++ pl).length + 1) := Lib.hid (by rw [← E6.out, List.length_append]; rfl)
      have l6 : (be 1 t ++ be 2 ch ++ be 4 (pl.length : Int) ++ pl).length + 1 ≤ 140737488355328 := by have := packed_length t ch pl; have := E7.out; omega
      clear e5
      generalize (be 1 t ++ be 2 ch ++ be 4 (pl.length : Int) ++ pl) = cur at O5 l6 E6 E7 ⊢
      go_wp2_with (at_builtin; refine wpList_app1 rfl (.tmp 51) (.tmp 52) rfl (bo < ·) (.slice A5 cur.length c5) cur rfl (Own.alloc O5.out _) w5.heap.size 206 rfl (by simp) l6 (by simp; omega) ?_; intro A6 c6 w6 hown6 hcap6 hk6; have HO6 := Lib.hid hown6; have HK6 := Lib.hid hk6; clear hown6 hk6)
      go_ret2
      rw [E7.out, ← E6.out]
      exact ⟨A6, c6, rfl, HO6.out.mono (fun k _ q => by have := HBo.out; omega), ((K5.out.alloc _).trans2 HK6.out (fun k _ q => O5.out.2 k q)).mono (fun k h q => by have := HBo.out; omega)⟩

set_option maxHeartbeats 1600000 in
theorem refPack (t ch : Int) (A : Option Addr) (c n : Nat) (pl : List UInt8) (hl : pl.length = n) (G : Nat → Prop) (w : World) (hb : RB w G A pl) (hn : pl.length ≤ 140737488351300) :
    Calls Try.prog 10 #[.agg #[.int .i64 t, .int .i64 ch, .slice A n c]] w (PackPost w t ch pl) := by
  rcases hk : knownB t with _ | _
  · have he : packErr t ch = 40 := by unfold packErr; rw [hk]; rfl
    have ho : packOut t ch pl = [] := by unfold packOut; rw [he, if_neg (by decide)]
    refine Calls.mono (R := fun e w' => e = .returned (.tuple #[.slice (some ⟨w.heap.size + 1, 0, none⟩) 0 0, .int .i64 40]) ∧ w' = (w.alloc (.cells #[.int .i64 t, .int .i64 ch, .slice A n c] 25)).alloc (.cells #[] 5)) ?_ ?_
    · clear he ho hb
      have q : (t != 1) = true ∧ (t != 2) = true ∧ (t != 3) = true ∧ (t != 8) = true := by
        unfold knownB at hk
        simp only [Bool.or_eq_false_iff] at hk
        simp [bne, hk]
      obtain ⟨q1, q2, q3, q4⟩ := q
      clear hk hl hn
      go_enter Try.func10, Try.ntmps10
      go_wp2
      go_ret2
      exact ⟨by simp, rfl⟩
    · rintro e w' ⟨rfl, rfl⟩
      unfold PackPost
      rw [he, ho]
      refine ⟨_, _, rfl, ?_, ((Kept.refl _ _).alloc _).alloc _⟩
      have h := Own.empty (w.alloc (.cells #[.int .i64 t, .int .i64 ch, .slice A n c] 25)) 5 1 (w.heap.size ≤ ·) (by simp)
      rw [show (w.alloc (.cells #[.int .i64 t, .int .i64 ch, .slice A n c] 25)).heap.size = w.heap.size + 1 by simp] at h
      exact h
  · by_cases hch : ch < 0 ∨ 65535 < ch
    · have he : packErr t ch = 2 := by unfold packErr; rw [hk, if_pos rfl, if_pos hch]
      have ho : packOut t ch pl = [] := by unfold packOut; rw [he, if_neg (by decide)]
      refine Calls.mono (R := fun e w' => e = .returned (.tuple #[.slice (some ⟨w.heap.size + 1, 0, none⟩) 0 0, .int .i64 2]) ∧ w' = (w.alloc (.cells #[.int .i64 t, .int .i64 ch, .slice A n c] 25)).alloc (.cells #[] 5)) ?_ ?_
      · clear he ho hb
        have hk8 : t = 1 ∨ t = 2 ∨ t = 3 ∨ t = 8 := by unfold knownB at hk; simpa [or_assoc] using hk
        clear hk hl hn
        have hq : ((t != 1) = false) ∨ ((t != 1) = true ∧ (t != 2) = false) ∨ ((t != 1) = true ∧ (t != 2) = true ∧ (t != 3) = false) ∨ ((t != 1) = true ∧ (t != 2) = true ∧ (t != 3) = true ∧ (t != 8) = false) := by
          rcases hk8 with rfl | rfl | rfl | rfl <;> decide
        clear hk8
        have hd : decide (ch < 0) = true ∨ (decide (ch < 0) = false ∧ 65535 < ch) := by
          by_cases h0 : ch < 0
          · exact .inl (by simpa using h0)
          · exact .inr ⟨by simpa using h0, by omega⟩
        clear hch
        rcases hd with hd | ⟨hd, hd2⟩ <;> rcases hq with q1 | ⟨q1, q2⟩ | ⟨q1, q2, q3⟩ | ⟨q1, q2, q3, q4⟩
        all_goals
          go_enter Try.func10, Try.ntmps10
          go_wp2
          go_ret2
          exact ⟨by simp, rfl⟩
      · rintro e w' ⟨rfl, rfl⟩
        unfold PackPost
        rw [he, ho]
        refine ⟨_, _, rfl, ?_, ((Kept.refl _ _).alloc _).alloc _⟩
        have h := Own.empty (w.alloc (.cells #[.int .i64 t, .int .i64 ch, .slice A n c] 25)) 5 1 (w.heap.size ≤ ·) (by simp)
        rw [show (w.alloc (.cells #[.int .i64 t, .int .i64 ch, .slice A n c] 25)).heap.size = w.heap.size + 1 by simp] at h
        exact h
    · have he : packErr t ch = 0 := by unfold packErr; rw [hk, if_pos rfl, if_neg hch]
      have ho : packOut t ch pl = packed t ch pl := by unfold packOut; rw [he, if_pos rfl]
      unfold PackPost
      rw [he, ho]
      exact refPackOk t ch A c n pl hl G w hb hn hk (by omega) (by omega)

/-- One octet of an owned row is written over. -/
theorem OB.fill_cells {w : World} {F : Nat → Prop} {A : Option Addr} {n cap j : Nat} {bs : List UInt8} (h : OB w F (.slice A n cap) bs) (hl : bs.length = n) (hj : j < n) (b : UInt8) :
    ∃ g q, A = some ⟨g, 0, none⟩ ∧ F g ∧ w.cell? ⟨g, j, none⟩ = some (.int .u8 q) ∧ w.frozen? ⟨g, j, none⟩ = false ∧ ∃ bs', bs'.length = n ∧ OB (w.setCell ⟨g, j, none⟩ (.int .u8 (b.toNat : Int))) F (.slice A n cap) bs' := by
  obtain ⟨g, h1, h2, h3, h4, h5⟩ := OB.store h (j := j) (by omega) b
  exact ⟨g, _, h1, h2, h3, h4, bs.set j b, by rw [List.length_set]; exact hl, h5⟩

end Go.Proofs.Ytkkfifocilnbkaa
