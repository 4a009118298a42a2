/-
  The walk of FramePacks.
-/
import Derived.Test.YtkkfifocilnbkaaFrPack
import Derived.Test.YtkkfifocilnbkaaSpeaks4
import Derived.Test.YtkkfifocilnbkaaFrOpen
namespace Go.Proofs.Ytkkfifocilnbkaa
open Go.RowKit

theorem far3 {w : World} {q b i : Nat} (h : q ≠ b) (x y z : Value) : (((w.setCell ⟨q, 0, none⟩ x).setCell ⟨q, 1, none⟩ y).setCell ⟨q, 2, none⟩ z).cell? ⟨b, i, none⟩ = w.cell? ⟨b, i, none⟩ :=
  World.cell?_of_block (w := w) (a := ⟨b, i, none⟩) (((Below.heap_setCell _ ⟨q, 2, none⟩ z b (fun e => h e.symm)).trans (Below.heap_setCell _ ⟨q, 1, none⟩ y b (fun e => h e.symm))).trans (Below.heap_setCell _ ⟨q, 0, none⟩ x b (fun e => h e.symm)))
theorem kept_q (w : World) (q : Nat) (x y z : Value) : Kept (· = q) w (((w.setCell ⟨q, 0, none⟩ x).setCell ⟨q, 1, none⟩ y).setCell ⟨q, 2, none⟩ z) :=
  (((Kept.refl (· = q) w).setCell (p := ⟨q, 0, none⟩) (fun _ => rfl) x).setCell (p := ⟨q, 1, none⟩) (fun _ => rfl) y).setCell (p := ⟨q, 2, none⟩) (fun _ => rfl) z
theorem packOut_length (t ch : Int) (pl : List UInt8) : (packOut t ch pl).length ≤ pl.length + 8 := by
  unfold packOut
  split
  · rw [packed_length]
    exact Nat.le_refl _
  · simp

set_option maxHeartbeats 3200000 in
set_option maxRecDepth 100000 in
theorem framePacks_walk (t ch : Int) (A : Option Addr) (c : Nat) (pl : List UInt8) (w : World) (hb : RB w (· < w.heap.size) A pl) (hn : pl.length ≤ 140737488351232) (ht1 : -9223372036854775808 ≤ t) (ht2 : t ≤ 9223372036854775807) :
    Calls Try.prog 4 #[.agg #[.int .i64 t, .int .i64 ch, .slice A pl.length c]] w fun e w' => e = .returned (.bool true) ∧ Kept noneS w w' := by
  have RB0 := Lib.hid hb
  have BK0 := Lib.hid (Blk.new w 25 #[.int .i64 t, .int .i64 ch, .slice A pl.length c])
  have KK0 := Lib.hid ((Kept.refl noneS w).alloc (.cells #[.int .i64 t, .int .i64 ch, .slice A pl.length c] 25))
  have hz0 : w.heap.size < (w.alloc (.cells #[.int .i64 t, .int .i64 ch, .slice A pl.length c] 25)).heap.size := by simp
  clear hb
  go_enter Try.func4, Try.ntmps4
  go_wp2_with fail
  generalize w.alloc (.cells #[.int .i64 t, .int .i64 ch, .slice A pl.length c] 25) = wa at BK0 KK0 hz0 ⊢
  generalize hbo : w.heap.size = bo at BK0 hz0 RB0 ⊢
  have HBo := Lib.hid hbo
  clear hbo
  refine (speaks4 wa).mono ?_
  rintro e w1 ⟨rfl, k1⟩
  have B1 := Lib.hid (BK0.out.keep k1 (fun q => q))
  have KK1 := Lib.hid (KK0.out.trans k1)
  have z1 := k1.size
  clear k1 BK0 KK0
  go_upto_region 3 with (fail)
  have t0 : w1.cell? ⟨bo, 0, none⟩ = some (.int .i64 t) := B1.out.cell 0
  have t1 : w1.cell? ⟨bo, 1, none⟩ = some (.int .i64 ch) := B1.out.cell 1
  have t2 : w1.cell? ⟨bo, 2, none⟩ = some (.slice A pl.length c) := B1.out.cell 2
  have RB1 := Lib.hid (RB0.out.still KK1.out)
  have ne1 := World.new_ne w1 _ t0
  dsimp only at ne1
  go_cut [3] from 13 to 20 (fun v wx => ∃ pi A' c', v = .pointer (some ⟨pi, 0, none⟩) ∧ Blk wx pi 25 #[.int .i64 t, .int .i64 ch, .slice A' pl.length c'] ∧ RB wx (bo < ·) A' pl ∧ Kept noneS w wx ∧ Blk wx bo 25 #[.int .i64 t, .int .i64 ch, .slice A pl.length c])
  case first =>
    go_region_held3 (fun W => W.cell? ⟨bo, 0, none⟩ = some (.int .i64 t) ∧ W.cell? ⟨bo, 1, none⟩ = some (.int .i64 ch) ∧ W.cell? ⟨bo, 2, none⟩ = some (.slice A pl.length c))
      (first | exact ⟨t0, t1, t2⟩ | exact ⟨d0, d1, d2⟩ | go_keep | exact ⟨(far3 ne1 _ _ _).trans d0, (far3 ne1 _ _ _).trans d1, (far3 ne1 _ _ _).trans d2⟩)
      (first
        | (go_at_call 8; refine (clone_any A c pl (fun _ => True) _ (by first | exact ((RB1.out.alloc _).mono (fun _ _ _ => trivial)) | exact RB1.out.mono (fun _ _ _ => trivial)) (by omega)).mono ?_; rintro e w2 ⟨A2, c2, rfl, o2, k2⟩; (try (have bv := Blk.keep (Blk.drew (Blk.new w1 25 #[.int .i64 0, .int .i64 0, .slice none 0 0])) k2 (fun q => q.elim); have v0 : w2.cell? ⟨w1.heap.size, 0, none⟩ = some (.int .i64 0) := bv.cell 0; have v1 : w2.cell? ⟨w1.heap.size, 1, none⟩ = some (.int .i64 0) := bv.cell 1; have v2 : w2.cell? ⟨w1.heap.size, 2, none⟩ = some (.slice none 0 0) := bv.cell 2; have v3 := bv.frozen 0; have v4 := bv.frozen 1; have v5 := bv.frozen 2; have BV := Lib.hid bv; clear bv)); have kA : Kept noneS w1 w2 := (by first | exact (((Kept.refl noneS w1).alloc _).drew).trans k2 | exact ((Kept.refl noneS w1).drew).trans k2); have bA := B1.out.keep kA (fun q => q.elim); have d0 : w2.cell? ⟨bo, 0, none⟩ = some (.int .i64 t) := bA.cell 0; have d1 : w2.cell? ⟨bo, 1, none⟩ = some (.int .i64 ch) := bA.cell 1; have d2 : w2.cell? ⟨bo, 2, none⟩ = some (.slice A pl.length c) := bA.cell 2; have O2 := Lib.hid o2; have KA := Lib.hid kA; have BA := Lib.hid bA; have KN := Lib.hid k2; have zA := kA.size; clear kA bA o2 k2))
    · go_wp2_with fail
      go_meet
      case rel => exact ⟨w2.heap.size, A2, c2, rfl, Blk.new _ _ _, ((OB.rb O2.out).2.alloc _).mono (fun k _ q => by have : w1.heap.size ≤ k := q; omega), (KK1.out.trans KA.out).alloc _, BA.out.alloc _⟩
    · go_wp2_with fail
      go_meet
      case rel =>
        have kq := kept_q w2 w1.heap.size (.int .i64 t) (.int .i64 ch) (.slice A2 pl.length c2)
        exact ⟨w1.heap.size, A2, c2, rfl, (((BV.out.set_ 0 _).set_ 1 _).set_ 2 _), ((OB.rb O2.out).2.keep kq (fun k _ q r => by simp at q; omega)).mono (fun k _ q => by simp at q; omega), (KK1.out.trans KA.out).trans2 kq (fun k h q => by have := HBo.out; omega), BA.out.keep kq (fun q => ne1 q.symm)⟩
  case rest =>
    obtain ⟨pi, A2, c2, rfl, bI, rbI, kI, bF⟩ := hcut
    have s0 : wc.cell? ⟨pi, 0, none⟩ = some (.int .i64 t) := bI.cell 0
    have s1 : wc.cell? ⟨pi, 1, none⟩ = some (.int .i64 ch) := bI.cell 1
    have s2 : wc.cell? ⟨pi, 2, none⟩ = some (.slice A2 pl.length c2) := bI.cell 2
    have hpi := bI.lt
    have hbc := bF.lt
    have BI := Lib.hid bI
    have RBI := Lib.hid (rbI.mono (G := (· < wc.heap.size)) (fun k a _ => a))
    have KI := Lib.hid kI
    have BF := Lib.hid bF
    have zc := kI.size
    clear bI rbI kI bF t0 t1 t2 RB1 B1 KK1 ne1 hz0 z1
    go_wp2_with fail
    refine (framePack t ch A2 c2 pl.length pl rfl _ wc RBI.out (by omega) ht1 ht2).mono ?_
    rintro e wd ⟨A3, c3, rfl, o3, k3⟩
    have hol := packOut_length t ch pl
    have O3 := Lib.hid (Own.mono o3 (G := fun k => wc.heap.size ≤ k ∧ k < wd.heap.size) (fun k a q => ⟨q, a⟩))
    have BI3 := Lib.hid (BI.out.keep k3 (fun q => q))
    have RBI3 := Lib.hid (RBI.out.still k3)
    have KI3 := Lib.hid (KI.out.trans k3)
    have BF3 := Lib.hid (BF.out.keep k3 (fun q => q))
    have z3 := k3.size
    have s0 : wd.cell? ⟨pi, 0, none⟩ = some (.int .i64 t) := BI3.out.cell 0
    have s1 : wd.cell? ⟨pi, 1, none⟩ = some (.int .i64 ch) := BI3.out.cell 1
    have s2 : wd.cell? ⟨pi, 2, none⟩ = some (.slice A2 pl.length c2) := BI3.out.cell 2
    clear o3 k3 BI RBI KI BF
    go_wp2_with fail
    refine (framePack t ch A2 c2 pl.length pl rfl _ wd RBI3.out (by omega) ht1 ht2).mono ?_
    rintro e we ⟨A4, c4, rfl, o4, k4⟩
    have O4 := Lib.hid (Own.mono o4 (G := fun k => wd.heap.size ≤ k ∧ k < we.heap.size) (fun k a q => ⟨q, a⟩))
    have O34 := Lib.hid (Own.keep0 O3.out k4 (fun _ _ _ q => q.elim))
    have BI4 := Lib.hid (BI3.out.keep k4 (fun q => q))
    have RBI4 := Lib.hid (RBI3.out.still k4)
    have KI4 := Lib.hid (KI3.out.trans k4)
    have BF4 := Lib.hid (BF3.out.keep k4 (fun q => q))
    have z4 := k4.size
    have s0 : we.cell? ⟨bo, 0, none⟩ = some (.int .i64 t) := BF4.out.cell 0
    have s1 : we.cell? ⟨bo, 1, none⟩ = some (.int .i64 ch) := BF4.out.cell 1
    have s2 : we.cell? ⟨bo, 2, none⟩ = some (.slice A pl.length c) := BF4.out.cell 2
    have RBF4 := Lib.hid (RB0.out.still KI4.out)
    clear o4 k4 BI3 RBI3 KI3 BF3 O3
    go_wp2_with fail
    refine (refPack t ch A c pl.length pl rfl _ we RBF4.out (by omega)).mono ?_
    rintro e wf ⟨A5, c5, rfl, o5, k5⟩
    have O5 := Lib.hid (Own.mono o5 (G := fun k => we.heap.size ≤ k ∧ k < wf.heap.size) (fun k a q => ⟨q, a⟩))
    have O35 := Lib.hid (Own.keep0 O34.out k5 (fun _ _ _ q => q.elim))
    have O45 := Lib.hid (Own.keep0 O4.out k5 (fun _ _ _ q => q.elim))
    have BI5 := Lib.hid (BI4.out.keep k5 (fun q => q))
    have RBI5 := Lib.hid (RBI4.out.still k5)
    have RBF5 := Lib.hid (RBF4.out.still k5)
    have KI5 := Lib.hid (KI4.out.trans k5)
    have BF5 := Lib.hid (BF4.out.keep k5 (fun q => q))
    have z5 := k5.size
    clear o5 k5 BI4 RBI4 KI4 BF4 O34 O4 RBF4
    generalize packOut t ch pl = out at *
    generalize packErr t ch = er at *
    clear s0 s1 s2
    go_wp2
    go_loopw [38] (fun i wr => ∃ (j : Nat) (bs : List UInt8), j ≤ out.length ∧ i = .int .i64 j ∧ bs.length = out.length ∧ OB wr (fun k => wc.heap.size ≤ k ∧ k < wd.heap.size) (.slice A3 out.length c3) bs ∧ Kept (fun k => wc.heap.size ≤ k ∧ k < wd.heap.size) wf wr) (fun i _ => out.length - (intOf i).toNat)
    case atStart => exact ⟨0, out, Nat.zero_le _, rfl, rfl, O35.out, Kept.refl _ _⟩
    case round =>
      obtain ⟨j, bs, hj, rfl, hbl, hob, hk⟩ := hrel
      have OBr := Lib.hid hob
      have KR := Lib.hid hk
      have HBl := Lib.hid hbl
      clear hob hk hbl
      by_cases hlt : j < out.length
      · obtain ⟨g, q, hA3, hgF, d0, d1, bs', hbs', hob'⟩ := OB.fill_cells OBr.out HBl.out hlt 0xee
        subst hA3
        have OB' := Lib.hid hob'
        have HBs' := Lib.hid hbs'
        have HGF := Lib.hid hgF
        clear hob' hbs' hgF
        go_wp2
        go_roundw
        case rel => exact ⟨j + 1, bs', by omega, by go_num, HBs'.out, OB'.out, KR.out.setCell (p := ⟨g, j, none⟩) (fun _ => HGF.out) _⟩
        case measure => simp [intOf]; omega
      · obtain ⟨w6, rfl⟩ : ∃ w6 : World, w6 = wr := ⟨_, rfl⟩
        have B6 := BI5.out.keep KR.out (fun q => by omega)
        have C6 := BF5.out.keep KR.out (fun q => by omega)
        have s0 : w6.cell? ⟨pi, 0, none⟩ = some (.int .i64 t) := B6.cell 0
        have s1 : w6.cell? ⟨pi, 1, none⟩ = some (.int .i64 ch) := B6.cell 1
        have s2 : w6.cell? ⟨pi, 2, none⟩ = some (.slice A2 pl.length c2) := B6.cell 2
        have u0_ : w6.cell? ⟨bo, 0, none⟩ = some (.int .i64 t) := C6.cell 0
        have u1_ : w6.cell? ⟨bo, 1, none⟩ = some (.int .i64 ch) := C6.cell 1
        have u2_ : w6.cell? ⟨bo, 2, none⟩ = some (.slice A pl.length c) := C6.cell 2
        have RI6 := Lib.hid (RBI5.out.keep KR.out (fun k _ a b => by omega))
        have RF6 := Lib.hid (RBF5.out.keep KR.out (fun k _ a b => by omega))
        have RB6 := Lib.hid ((OB.rb (Own.keep O45.out KR.out (fun k _ a b => by omega))).2)
        have RC6 := Lib.hid ((OB.rb (Own.keep O5.out KR.out (fun k _ a b => by omega))).2)
        have K6 : Hid (Kept noneS w w6) := Lib.hid (KI5.out.trans2 KR.out (fun k a b => by have := HBo.out; omega))
        clear B6 C6 OBr
        go_wp2_with fail
        refine (same_any A4 A5 c4 c5 out.length out.length out out _ _ w6 RB6.out RC6.out rfl rfl).mono ?_
        rintro e w' ⟨rfl, rfl⟩
        rw [show (out == out) = true by simp]
        go_wp2_with fail
        refine (refSame t ch t ch A2 A c2 c pl.length pl.length pl pl rfl rfl _ _ w6 RI6.out RF6.out).mono ?_
        rintro e w7 ⟨rfl, k7⟩
        have K7 := Lib.hid (K6.out.trans k7)
        clear k7
        rw [show sameB t ch pl t ch pl = true by simp [sameB]]
        go_wp2
        go_ret
        exact ⟨rfl, K7.out⟩

end Go.Proofs.Ytkkfifocilnbkaa
