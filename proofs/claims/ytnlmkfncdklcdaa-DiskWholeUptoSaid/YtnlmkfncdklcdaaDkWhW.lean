/-
  The walk of DiskWhole.
-/
import Derived.Test.YtnlmkfncdklcdaaDkSpeaks
import Derived.Test.YtnlmkfncdklcdaaDkRef7
import Derived.Test.YtnlmkfncdklcdaaDkAny
import Derived.Test.YtnlmkfncdklcdaaDkArg2
import Derived.Test.YtnlmkfncdklcdaaDkRef8
import Derived.Deep.RegionHeld3
namespace Go.Proofs.Ytnlmkfncdklcdaa
open Go.RowKit

attribute [local go_sem ↓] append_as

theorem and3 (x : Int) : bits .and .i64 x 3 = ((x % 4).toNat : Int) := by
  have h1 : (BitVec.ofInt 64 x).toNat % 4 = (x % 4).toNat := by
    rw [BitVec.toNat_ofInt]
    omega
  show IntKind.i64.wrap ((BitVec.ofInt 64 x &&& BitVec.ofInt 64 3).toNat : Int) = _
  rw [BitVec.toNat_and, show (BitVec.ofInt 64 3).toNat = 3 from rfl, show (BitVec.ofInt 64 x).toNat &&& 3 = (BitVec.ofInt 64 x).toNat % 4 from Nat.and_two_pow_sub_one_eq_mod _ 2, h1, IntKind.wrap_i64]
  omega

/-! ## A row of truths that is filled -/

theorem infoBool : (Try.prog.info? 4).map (fun i => (i.zero, i.size, i.bytes)) = some (some (.bool false), 1, 1) := by kernel_rfl
theorem run_make_bools (w : World) (n : Nat) (hn : n ≤ 4194304) :
    (Instr.makeSlice 38 (.int .i64 (n : Int)) (.int .i64 (n : Int))).run Try.prog w = .ok (.slice (some ⟨w.heap.size, 0, none⟩) n n) (w.alloc (.cells (madeCells #[.bool false] n) 4)) := by
  obtain ⟨i0, hi, hz0, hz1, hz2⟩ := info_parts infoBool
  have h := run_make (P := Try.prog) w 38 4 i0 (.bool false) Try.underlying38 hi hz0 .i64 .i64 (n : Int) (n : Int) (by omega) (by omega) (by rw [hz2]; omega) (by omega)
  rw [hz1] at h
  simpa [Value.cells] using h
/-- The first j of n are true. -/
def trues (n j : Nat) : Array Value := (List.replicate j (Value.bool true) ++ List.replicate (n - j) (Value.bool false)).toArray
theorem trues_zero (n : Nat) : madeCells #[.bool false] n = trues n 0 := by
  have e := toList_madeCells_one (.bool false) n
  unfold trues
  rw [List.replicate_zero, List.nil_append, Nat.sub_zero, ← e, Array.toArray_toList]
theorem trues_set {n j : Nat} (h : j < n) : (trues n j).setIfInBounds j (.bool true) = trues n (j + 1) := by
  unfold trues
  obtain ⟨m, hm⟩ : ∃ m, n - j = m + 1 := ⟨n - j - 1, by omega⟩
  have e : n - (j + 1) = m := by omega
  rw [hm, e]
  apply Array.toList_inj.1
  rw [Array.toList_setIfInBounds]
  simp only
  rw [List.set_append_right _ _ (by simp), List.length_replicate, Nat.sub_self, List.replicate_succ, List.set_cons_zero, List.replicate_succ', List.append_assoc]
  rfl
theorem trues_size (n j : Nat) (h : j ≤ n) : (trues n j).size = n := by
  unfold trues
  simp
  omega
theorem trues_rd {w : World} {b n : Nat} (h : Blk w b 4 (trues n n)) : Rd w (· = b) (some ⟨b, 0, none⟩) ((List.replicate n true).map Value.bool) := by
  refine .inr ⟨b, 0, rfl, rfl, fun j u hu => ?_⟩
  rw [Nat.zero_add, h.cell j]
  unfold trues
  rw [Nat.sub_self, List.replicate_zero, List.append_nil]
  rw [List.map_replicate] at hu
  rw [List.getElem?_toArray]
  exact hu
theorem all_true (n : Nat) : ∀ j, j < n → (List.replicate n true).getD j false = true := by
  intro j hj
  rw [List.getD_eq_getElem?_getD, List.getElem?_replicate, if_pos hj]
  rfl

/-! ## How large a disk is behind Cut and Remove -/

theorem big_cut (s : DiskS) (nm : List UInt8) (n : Int) : (s.cutOut nm n).big ≤ s.big := by
  unfold DiskS.cutOut
  rcases e : s.get nm with _ | f
  · exact Int.le_refl _
  · simp only
    split
    · exact Int.le_refl _
    · have h1 : (s.cut f n.toNat).files.length = s.files.length := by
        show (updF f.key safeF (updF f.key (cutF n.toNat) s.files)).length = _
        unfold updF
        rw [List.length_map, List.length_map]
      have h2 : (s.cut f n.toNat).pend.length ≤ s.pend.length := List.length_filter_le _ _
      have h3 : (s.cut f n.toNat).used = s.used - ((f.data.length : Int) - (n.toNat : Int)) := rfl
      unfold DiskS.big
      omega
theorem big_rem (s : DiskS) (nm : List UInt8) : (s.remOut nm).big ≤ s.big := by
  unfold DiskS.remOut
  rcases e : s.get nm with _ | f
  · exact Int.le_refl _
  · have h1 : (s.rem f).files.length ≤ s.files.length := List.length_filter_le _ _
    have h2 : (s.rem f).pend.length ≤ s.pend.length := List.length_filter_le _ _
    have h3 : (s.rem f).used = s.used - (f.data.length : Int) := rfl
    simp only
    unfold DiskS.big
    omega
theorem DAt.name_le {w : World} {F : Nat → Prop} {p N : Nat} {s : DiskS} (h : DAt w F p s N) {f : FileS} (hf : f ∈ s.files) : f.name.size ≤ 140737488351232 := by
  obtain ⟨_, _, _, _, _, _, _, _, _, _, h7, _⟩ := h
  exact (h7 f hf).2.1
theorem sync_seen (s : DiskS) : s.sync2.seen = s.seen := by
  unfold DiskS.seen DiskS.sync2
  rw [List.map_map]
  rfl

set_option maxRecDepth 100000 in
set_option maxHeartbeats 6400000 in
theorem diskWhole_walk (A : Option Addr) (c : Nat) (fs : List FlS) (B : Option Addr) (bc : Nat) (ops : List DOp) (KA : Option Addr) (kc : Nat) (keep : List Bool) (tear : Int) (w : World) (h : FlsAt w (· < w.heap.size) A fs) (hl : fs.length + totLen fs ≤ 1048576)
    (ho : Rd w (· < w.heap.size) B (ops.flatMap DOp.cells)) (hg : ∀ o ∈ ops, o.good w) (hb : (ops.map DOp.bulk).sum ≤ 1048576) (hk : Rd w (· < w.heap.size) KA (keep.map Value.bool)) (ht : -9223372036854775808 ≤ tear ∧ tear ≤ 9223372036854775807) :
    Calls Try.prog 7 #[.slice A fs.length c, .slice B ops.length bc, .agg #[.slice KA keep.length kc, .int .i64 tear]] w fun e w' => e = .returned (.bool true) ∧ Kept noneS w w' := by
  have HX := Lib.hid h
  have HOp := Lib.hid ho
  have HGd := Lib.hid hg
  have HB := Lib.hid hb
  have HKp := Lib.hid hk
  have HT := Lib.hid ht
  have hol : ops.length ≤ 1048576 := Nat.le_trans (by
    have : ∀ l : List DOp, l.length ≤ (l.map DOp.bulk).sum := by
      intro l
      induction l with
      | nil => exact Nat.le_refl _
      | cons x l ih => simp only [List.length_cons, List.map_cons, List.sum_cons, DOp.bulk]; omega
    exact this ops) hb
  clear h ho hg hb hk ht
  go_enter Try.func7, Try.ntmps7
  go_wp2_with fail
  generalize hwz : w.alloc (.cells #[.slice KA keep.length kc, .int .i64 tear] 40) = wz
  have KZ : Hid (Kept noneS w wz) := Lib.hid (by rw [← hwz]; exact (Kept.refl _ _).alloc _)
  have BZ : Hid (Blk wz w.heap.size 40 #[.slice KA keep.length kc, .int .i64 tear]) := Lib.hid (by rw [← hwz]; exact Blk.new _ _ _)
  clear hwz
  refine (speaks11 wz).mono ?_
  rintro e w1 ⟨rfl, k1⟩
  have K1 := Lib.hid (KZ.out.trans k1)
  have B1 := Lib.hid (BZ.out.keep k1 (fun a => a))
  clear k1 BZ KZ
  go_wp2_with fail
  refine (refOpen A c fs 1099511627776 _ w1 (HX.out.still K1.out) (by omega) (by decide)).mono ?_
  rintro e w2 (⟨he, rfl, k2⟩ | ⟨he, q, G, rfl, _, _, k2⟩)
  · have K2 := Lib.hid (K1.out.trans k2)
    have HE := Lib.hid he
    have hne : (openErr fs [] != 0) = true := by simpa using he
    clear k2 he B1
    go_wp2_with fail
    refine (copyFiles A c fs _ w2 (HX.out.still K2.out) (by omega)).mono ?_
    rintro e w3 ⟨A3, c3, rfl, o3, k3⟩
    have O3 := Lib.hid o3
    have K3 := Lib.hid (K2.out.trans k3)
    clear k3 o3
    go_wp2_with fail
    refine (diskOpen A3 c3 fs 1099511627776 _ w3 O3.out.fls (by omega) (by decide)).mono ?_
    rintro e w4 (⟨_, rfl, k4⟩ | ⟨q, _⟩)
    · have K4 := Lib.hid (K3.out.trans k4)
      clear k4
      have hee : (openErr fs [] == openErr fs []) = true := by simp
      go_wp2
      go_ret
      exact ⟨rfl, K4.out⟩
    · exact absurd q HE.out
  · have K2 := Lib.hid (K1.out.trans k2)
    have B2 := Lib.hid (B1.out.keep k2 (fun a => a))
    have HE := Lib.hid he
    clear k2 he B1
    go_wp2_with fail
    refine (copyFiles A c fs _ w2 (HX.out.still K2.out) (by omega)).mono ?_
    rintro e w3 ⟨A3, c3, rfl, o3, k3⟩
    have O3 := Lib.hid o3
    have K3 := Lib.hid (K2.out.trans k3)
    have B3 := Lib.hid (B2.out.keep k3 (fun a => a))
    clear k3 o3 B2
    go_wp2_with fail
    refine (diskOpen A3 c3 fs 1099511627776 _ w3 O3.out.fls (by omega) (by decide)).mono ?_
    rintro e w4 (⟨q, _⟩ | ⟨_, p, F, rfl, hd, hF, hasc, k4⟩)
    · exact absurd HE.out q
    have K4 := Lib.hid (K3.out.trans k4)
    have B4 := Lib.hid (B3.out.keep k4 (fun a => a))
    have D4 := Lib.hid hd
    have I4 : Hid (DInv (openS fs 1099511627776)) := Lib.hid (openS_inv (by omega) hasc)
    have F4 : Hid (∀ k, F k → w.heap.size + 1 ≤ k) := Lib.hid (fun k a => by have h1 := hF k a; have h2 := K3.out.size; have h3 := B3.out.lt; omega)
    have G4 := Lib.hid (big_open (room := 1099511627776) hl)
    clear k4 hd hF hasc B3 O3
    have hfl : fs.length ≤ 1048576 := by omega
    go_wp2
    go_loopw [48] (fun v wr => ∃ (j : Nat) (F : Nat → Prop) (s : DiskS) (N : Nat), j ≤ ops.length ∧ v = .int .i64 j ∧ N ≤ fs.length + j ∧ Hid (DAt wr F p s N) ∧ Hid (DInv s) ∧ Hid (s.big ≤ 1048576 + (((ops.take j).map DOp.bulk).sum : Int)) ∧ Hid (∀ k, F k → w.heap.size + 1 ≤ k) ∧ Hid (Kept noneS w wr) ∧ Hid (Blk wr w.heap.size 40 #[.slice KA keep.length kc, .int .i64 tear])) (fun v _ => ops.length - (intOf v).toNat)
    case atStart => exact ⟨0, F, _, fs.length, Nat.zero_le _, rfl, Nat.le_refl _, D4, I4, Lib.hid (by have := G4.out; simpa using this), F4, K4, B4⟩
    case round =>
      obtain ⟨j, F, s, N, hj, rfl, hN, HD, HI, HBg, HF, HK, HBl⟩ := hrel
      clear D4 I4 G4 F4 K4 B4
      by_cases hlt : j < ops.length
      · obtain ⟨g, o, rfl, hgg, d0, d1, d2, d3, d4, d5⟩ := (HOp.out.keep HK.out (fun _ _ _ q => q.elim)).dop hlt
        have hgood := HGd.out ops[j] (List.getElem_mem hlt)
        have HS1 := Lib.hid (sum_takeD DOp.bulk ops j hlt)
        generalize ops[j] = op at d0 d1 d2 d3 d4 d5 hgood HS1
        have HGo := Lib.hid hgood
        have hji : (j : Int) < (ops.length : Int) := by omega
        have hj0 : (0 : Int) ≤ (j : Int) := by omega
        have HK5 : Hid (Kept noneS wr (wr.alloc (.cells #[.int .i64 op.kind, .int .i64 op.n, .string op.name, .slice op.addr op.data.length op.cap, .slice op.fate.addr op.fate.keep.length op.fate.cap, .int .i64 op.fate.tear] 45))) := Lib.hid ((Kept.refl _ _).alloc _)
        have HB5 := Lib.hid (Blk.new wr 45 #[.int .i64 op.kind, .int .i64 op.n, .string op.name, .slice op.addr op.data.length op.cap, .slice op.fate.addr op.fate.keep.length op.fate.cap, .int .i64 op.fate.tear])
        clear hgood
        have hnm : op.name.size ≤ 140737488351232 := by
          have h1 : op.name.size + op.data.length + 4 ≤ op.bulk := by unfold DOp.bulk; omega
          have h2 := sum_takeD_le DOp.bulk ops (j + 1)
          rw [HS1.out] at h2
          have := HB.out
          omega
        have hby : op.name.size + op.data.length + 4 ≤ op.bulk := by unfold DOp.bulk; omega
        have hbk : op.bulk ≤ 1048576 ∧ ((ops.take j).map DOp.bulk).sum ≤ 1048576 := by
          have h2 := sum_takeD_le DOp.bulk ops (j + 1)
          rw [HS1.out] at h2
          have := HB.out
          omega
        have Hbp := Lib.hid (big_parts HI.out HBg.out)
        have hFl := Lib.hid HD.out.lt
        obtain ⟨kk, hkk, hk⟩ : ∃ kk : Int, bits .and .i64 op.kind 3 = kk ∧ ((kk = 0 ∨ kk = 1) ∨ kk = 2 ∨ kk = 3) := ⟨_, and3 op.kind, by omega⟩
        go_upto_region 10 with (fail)
        generalize wr.alloc (.cells #[.int .i64 op.kind, .int .i64 op.n, .string op.name, .slice op.addr op.data.length op.cap, .slice op.fate.addr op.fate.keep.length op.fate.cap, .int .i64 op.fate.tear] 45) = w5 at HK5 HB5 ⊢
        have y0 : w5.cell? ⟨wr.heap.size, 0, none⟩ = some (.int .i64 op.kind) := HB5.out.cell 0
        have y1 : w5.cell? ⟨wr.heap.size, 1, none⟩ = some (.int .i64 op.n) := HB5.out.cell 1
        have y2 : w5.cell? ⟨wr.heap.size, 2, none⟩ = some (.string op.name) := HB5.out.cell 2
        have y3 : w5.cell? ⟨wr.heap.size, 3, none⟩ = some (.slice op.addr op.data.length op.cap) := HB5.out.cell 3
        rcases hk with hk | hk | hk
        · have HRB : Hid (RB w5 (· < w.heap.size) op.addr op.data) := Lib.hid ((HGo.out.2.2.1.still HK.out).still HK5.out)
          have Hap := Lib.hid (big_app s op.name op.data)
          rcases hk with rfl | rfl
          all_goals
            go_upto_region 14 with (fail)
            go_region_held3 (fun W => W.cell? ⟨wr.heap.size, 2, none⟩ = some (.string op.name) ∧ W.cell? ⟨wr.heap.size, 3, none⟩ = some (.slice op.addr op.data.length op.cap))
              (first | exact ⟨y2, y3⟩ | exact ⟨s2, s3⟩ | exact ⟨s2k, s3k⟩ | go_keep)
              (first
                | (go_at_call 20; refine (clone_any op.addr op.cap op.data _ w5.drew HRB.out.drew (by omega)).mono ?_; rintro e w6 ⟨A6, c6, rfl, o6, k6⟩; have kA : Kept noneS w5 w6 := ((Kept.refl noneS w5).drew).trans k6; have s2 := (kA.cell (lt_of_cell y2) (fun a => a)).trans y2; have s3 := (kA.cell (lt_of_cell y3) (fun a => a)).trans y3; have O6 := Lib.hid o6; have K6 := Lib.hid kA; clear o6 k6 kA)
                | (go_at_call 19; refine (appendAny F (w5.drew.heap.size ≤ ·) p N s op.name A6 op.data c6 w6 (HD.out.keep (HK5.out.trans K6.out) (fun _ _ a => a)) HI.out (by omega) (by have := Hbp.out; omega) (OB.rb O6.out).2 O6.out.nil_of (fun k a b => absurd b (Nat.not_le.2 (by have h1 := hFl.out k a; have h2 := HK5.out.size; exact Nat.lt_of_lt_of_le h1 h2))) (by have := Hbp.out; omega) (by unfold maxLen; omega)).mono ?_; rintro e w7 ⟨rfl, F7, d7, f7, k7⟩; have s2k := (k7.cell (lt_of_cell s2) (fun a => Nat.lt_irrefl _ (hFl.out _ a))).trans s2; have s3k := (k7.cell (lt_of_cell s3) (fun a => Nat.lt_irrefl _ (hFl.out _ a))).trans s3; have D7 := Lib.hid d7; have F7' := Lib.hid f7; have K7 := Lib.hid k7; clear d7 f7 k7))
            all_goals
              go_wp2
              go_roundw
              case rel => exact ⟨j + 1, F7, _, N + 1, by omega, by go_num, by omega, D7, Lib.hid (HI.out.appOut _ _), Lib.hid (by have h1 := HBg.out; have h2 := Hap.out; rw [HS1.out]; omega), Lib.hid (fun k a => (F7'.out k a).elim (HF.out k) (fun b => by have h1 := HK.out.size; have h2 := HK5.out.size; have h3 := K6.out.size; have h4 := HBl.out.lt; omega)), Lib.hid ((HK.out.trans (HK5.out.trans K6.out)).trans2 K7.out (fun k a b => absurd a (Nat.not_lt.2 (by have := HF.out k b; omega)))), Lib.hid ((HBl.out.keep (HK5.out.trans K6.out) (fun a => a)).keep K7.out (fun a => by have := HF.out _ a; omega))⟩
              case measure => simp [intOf]; omega
        · subst hk
          have Hap := Lib.hid (big_cut s op.name.toList op.n)
          go_wp2_with fail
          refine (cutAny F p N s op.name op.n w5 (HD.out.keep HK5.out (fun _ _ a => a)) HI.out hnm (by have := Hbp.out; omega)).mono ?_
          rintro e w7 ⟨rfl, F7, d7, f7, k7⟩
          have D7 := Lib.hid d7
          have F7' := Lib.hid f7
          have K7 := Lib.hid k7
          clear d7 f7 k7
          go_wp2
          go_roundw
          case rel => exact ⟨j + 1, F7, _, N, by omega, by go_num, by omega, D7, Lib.hid (HI.out.cutOut _ _), Lib.hid (by have h1 := HBg.out; have h2 := Hap.out; rw [HS1.out]; omega), Lib.hid (fun k a => (F7'.out k a).elim (HF.out k) (fun b => by have h1 := HK.out.size; have h2 := HK5.out.size; have h4 := HBl.out.lt; omega)), Lib.hid ((HK.out.trans HK5.out).trans2 K7.out (fun k a b => absurd a (Nat.not_lt.2 (by have := HF.out k b; omega)))), Lib.hid ((HBl.out.keep HK5.out (fun a => a)).keep K7.out (fun a => by have := HF.out _ a; omega))⟩
          case measure => simp [intOf]; omega
        · subst hk
          have Hap := Lib.hid (big_rem s op.name.toList)
          go_wp2_with fail
          refine (remAny F p N s op.name w5 (HD.out.keep HK5.out (fun _ _ a => a)) HI.out hnm (by have := Hbp.out; omega)).mono ?_
          rintro e w7 ⟨rfl, d7, k7⟩
          have D7 := Lib.hid d7
          have K7 := Lib.hid k7
          clear d7 k7
          go_wp2
          go_roundw
          case rel => exact ⟨j + 1, F, _, N, by omega, by go_num, by omega, D7, Lib.hid (HI.out.remOut _), Lib.hid (by have h1 := HBg.out; have h2 := Hap.out; rw [HS1.out]; omega), HF, Lib.hid ((HK.out.trans HK5.out).trans2 K7.out (fun k a b => absurd a (Nat.not_lt.2 (by have := HF.out k b; omega)))), Lib.hid ((HBl.out.keep HK5.out (fun a => a)).keep K7.out (fun a => by have := HF.out _ a; omega))⟩
          case measure => simp [intOf]; omega
      · obtain rfl : j = ops.length := by omega
        rw [List.take_length] at HBg
        have hbl := HB.out
        have G8 : Hid (s.big ≤ 2097152) := Lib.hid (by have h2 := HBg.out; omega)
        have Cs := Lib.hid (crash_small HI.out G8.out (by decide))
        have Bp := Lib.hid (big_parts HI.out G8.out)
        have Hln : Hid (∀ f ∈ s.files, f.data.length ≤ 140737488351232) := Lib.hid (fun f hf => by have h1 := HI.out.len_le hf; have h2 := Bp.out; omega)
        have hfl2 : s.files.length ≤ 2097152 := by have := Bp.out; omega
        clear HBg
        obtain ⟨n, hn⟩ : ∃ n, s.pend.length = n := ⟨_, rfl⟩
        have hn2 : n ≤ 2097152 := by have := Bp.out; omega
        have HN := Lib.hid hn
        have hmk := fun W => run_make_bools W n (by omega)
        rw [trues_zero] at hmk
        have Kx : Hid (Kept noneS wr ((wr.alloc (.cells (trues n 0) 4)).alloc (.cells #[] 36))) := Lib.hid (((Kept.refl _ _).alloc _).alloc _)
        have Bx : Hid (Blk ((wr.alloc (.cells (trues n 0) 4)).alloc (.cells #[] 36)) wr.heap.size 4 (trues n 0)) := Lib.hid ((Blk.new wr 4 (trues n 0)).alloc _)
        have Fx : Hid (FlsOwn ((wr.alloc (.cells (trues n 0) 4)).alloc (.cells #[] 36)) (· = wr.heap.size + 1) (.slice (some ⟨wr.heap.size + 1, 0, none⟩) 0 0) []) := Lib.hid (by
          have h1 := FlsOwn.empty (wr.alloc (.cells (trues n 0) 4)) (· = wr.heap.size + 1) (by simp)
          rw [show (wr.alloc (.cells (trues n 0) 4)).heap.size = wr.heap.size + 1 by simp] at h1
          exact h1)
        have zx : ((wr.alloc (.cells (trues n 0) 4)).alloc (.cells #[] 36)).heap.size = wr.heap.size + 2 := by simp
        go_wp2_with fail
        refine (diskPending F p N s wr HD.out).mono ?_
        rw [hn]
        rintro e w8 ⟨rfl, rfl⟩
        clear hn
        go_upto_region 19 with (fail)
        generalize (wr.alloc (.cells (trues n 0) 4)).alloc (.cells #[] 36) = w9 at Kx Bx Fx zx ⊢
        have D9 := Lib.hid (HD.out.keep Kx.out (fun _ _ a => a))
        have K9 := Lib.hid (HK.out.trans Kx.out)
        have B9 := Lib.hid (HBl.out.keep Kx.out (fun a => a))
        have hF9 : Hid (∀ k, F k → k < wr.heap.size) := Lib.hid HD.out.lt
        have hw9 : w.heap.size < wr.heap.size := HBl.out.lt
        generalize wr.heap.size = bA at *
        clear HD HK HBl Kx hmk
        go_wp2
        go_loopw [84] (fun v wx => ∃ j : Nat, j ≤ n ∧ v = .int .i64 j ∧ Hid (Blk wx bA 4 (trues n j)) ∧ Hid (Kept (· = bA) w9 wx)) (fun v _ => n - (intOf v).toNat)
        case atStart => exact ⟨0, Nat.zero_le _, rfl, Bx, Lib.hid (Kept.refl _ _)⟩
        case round =>
          obtain ⟨j, hj, rfl, HA, HKr⟩ := hrel
          by_cases hlt : j < n
          · have hji : (j : Int) < (n : Int) := by omega
            have hj0 : (0 : Int) ≤ (j : Int) := by omega
            have z0 : wr.cell? ⟨bA, j, none⟩ = some (.bool false) := by
              rw [HA.out.cell j]
              unfold trues
              rw [List.getElem?_toArray, List.getElem?_append_right (by simp), List.length_replicate, Nat.sub_self, List.getElem?_replicate, if_pos (by omega)]
            have zf : wr.frozen? ⟨bA, j, none⟩ = false := HA.out.frozen j
            go_wp2
            go_roundw
            case rel => exact ⟨j + 1, by omega, by go_num, Lib.hid (by rw [← trues_set hlt]; exact HA.out.set_ j _), Lib.hid (HKr.out.setCell (p := ⟨bA, j, none⟩) (fun _ => rfl) _)⟩
            case measure => simp [intOf]; omega
          · obtain rfl : n = j := by omega
            have DA := Lib.hid (D9.out.keep HKr.out (fun k a b => by have := hF9.out k a; omega))
            have KA2 := Lib.hid (K9.out.trans2 HKr.out (fun k a b => by omega))
            have BA := Lib.hid (B9.out.keep HKr.out (fun a => by omega))
            have FA := Lib.hid (Fx.out.keep HKr.out (fun k _ a b => by omega))
            have za : w9.heap.size ≤ wr.heap.size := HKr.out.size
            have HA2 := HA
            clear D9 K9 B9 Fx HKr Bx HA
            obtain ⟨wb, rfl⟩ : ∃ wb, wb = wr := ⟨wr, rfl⟩
            obtain ⟨sn, hsn⟩ : ∃ sn, s.seen = sn := ⟨_, rfl⟩
            have hsl : sn.length = s.files.length := by rw [← hsn]; exact List.length_map _
            have HSn := Lib.hid hsn
            have HSl := Lib.hid hsl
            clear hsn
            go_wp2_with fail
            refine (diskNames F p N s wb DA.out HI.out.asc (by omega)).mono ?_
            rintro e w11 ⟨An, cn, rfl, on, kn⟩
            have RN := Lib.hid (Own.rd on)
            have D11 := Lib.hid (DA.out.keep kn (fun _ _ a => a))
            have K11 := Lib.hid (KA2.out.trans kn)
            have B11 := Lib.hid (BA.out.keep kn (fun a => a))
            have A11 := Lib.hid (HA2.out.keep kn (fun a => a))
            have F11 := Lib.hid (FA.out.still kn)
            have z11 := kn.size
            clear on kn DA KA2 BA FA HA2 hsl
            go_wp2
            go_loopw [14, 94] (fun v i wx => ∃ j : Nat, j ≤ s.files.length ∧ i = .int .i64 j ∧ Hid (FlsOwn wx (fun k => k = bA + 1 ∨ w11.heap.size ≤ k) v (sn.take j)) ∧ Hid (Kept (· = bA + 1) w11 wx)) (fun _ i _ => s.files.length - (intOf i).toNat)
            case atStart => exact ⟨0, Nat.zero_le _, rfl, Lib.hid (F11.out.mono (fun k _ a => .inl a)), Lib.hid (Kept.refl _ _)⟩
            case round =>
              obtain ⟨j, hj, rfl, HO, HKr⟩ := hrel
              by_cases hlt : j < s.files.length
              · obtain ⟨g, o, rfl, hnc⟩ : ∃ g o, An = some ⟨g, o, none⟩ ∧ wr.cell? ⟨g, o + j, none⟩ = some (.string s.files[j].name) := by
                  rcases RN.out.keep HKr.out (fun k _ a b => by omega) with q | ⟨g, o, e, _, hc⟩
                  · have := congrArg List.length q
                    simp at this
                    rw [this] at hlt
                    cases hlt
                  · exact ⟨g, o, e, hc j _ (by simp [hlt])⟩
                have hfm : s.files[j] ∈ s.files := List.getElem_mem hlt
                have htk : sn.take (j + 1) = sn.take j ++ [⟨s.files[j].name, s.files[j].data⟩] := by
                  rw [List.take_succ_eq_append_getElem (by rw [HSl.out]; exact hlt)]
                  congr 1
                  rw [List.singleton_inj]
                  simp only [← HSn.out, DiskS.seen, List.getElem_map]
                have HTk := Lib.hid htk
                clear htk
                generalize s.files[j] = f at *
                have hnm := D11.out.name_le hfm
                have hdl := Hln.out f hfm
                have hget : s.get f.name.toList = some f := HI.out.get hfm
                obtain ⟨A0, c0, rfl, _⟩ := HO.out.form
                have hcl : (sn.take j).length = j := by rw [List.length_take, HSl.out]; omega
                have HO1 := HO
                rw [hcl] at HO ⊢
                have HGet := Lib.hid hget
                have HCl := Lib.hid hcl
                clear hget hcl hfm
                have hji : (j : Int) < (s.files.length : Int) := by omega
                have hj0 : (0 : Int) ≤ (j : Int) := by omega
                go_wp2_with fail
                refine (diskRead F p N s f.name wr (D11.out.keep HKr.out (fun k a b => by have := hF9.out k a; omega)) hnm (fun f hf => by have := Hln.out f hf; omega)).mono ?_
                rw [HGet.out]
                simp only [ReadPost]
                rintro e w12 ⟨A12, c12, rfl, o12, k12⟩
                obtain ⟨A3, c3, w3, hap, fo3, k3, os3⟩ := (HO1.out.still k12).append f.name f.data _ (Own.mono o12 (fun k _ a => .inr (Nat.le_trans HKr.out.size a))) hnm hdl (fun k a => .inr (Nat.le_trans (Nat.le_trans HKr.out.size k12.size) a)) (by rw [HCl.out]; omega)
                rw [HCl.out] at hap fo3
                rw [← HTk.out] at fo3
                have FO3 := Lib.hid fo3
                have K3 : Hid (Kept (· = bA + 1) w11 w3) := Lib.hid ((HKr.out.trans2 k12 (fun _ _ a => a.elim)).trans2 k3 (fun k a b => by
                  obtain ⟨css, h1, _⟩ := HO1.out
                  rcases h1.2 k b with e | e
                  · exact e
                  · omega))
                clear fo3 k3 os3 o12 k12
                go_wp2
                go_roundw
                case rel => exact ⟨j + 1, by omega, by go_num, FO3, K3⟩
                case measure => simp [intOf]; omega
              · obtain rfl : j = s.files.length := by omega
                have hfo := HO.out
                rw [← HSl.out, List.take_length] at hfo
                obtain ⟨A3, c3, rfl, _⟩ := hfo.form
                have FO := Lib.hid hfo
                clear hfo HO
                have hcr := diskCrash F (· = bA) p N s wr (some ⟨bA, 0, none⟩) n (List.replicate n true) (-1) (D11.out.keep HKr.out (fun k a b => by have := hF9.out k a; omega)) HI.out.asc (trues_rd (A11.out.keep HKr.out (fun a => by omega))) (by decide) Cs.out.1 Cs.out.2.1 Cs.out.2.2.1 Cs.out.2.2.2
                rw [List.length_replicate, left_all HI.out (by decide) (fun j hj => all_true n j (by rw [← HN.out]; exact hj)), HSn.out] at hcr
                have D12 := Lib.hid (D11.out.keep HKr.out (fun k a b => by have := hF9.out k a; omega))
                have K12 := Lib.hid (K11.out.trans2 HKr.out (fun k a b => by omega))
                have B12 := Lib.hid (B11.out.keep HKr.out (fun a => by omega))
                clear D11 K11 B11 A11 F11 RN HKr
                go_wp2_with fail
                refine hcr.mono ?_
                rintro e w13 ⟨A13, c13, rfl, o13, k13⟩
                have FO13 := Lib.hid (FO.out.still k13)
                have O13 := Lib.hid o13.fls
                have D13 := Lib.hid (D12.out.keep k13 (fun _ _ a => a))
                have K13 := Lib.hid (K12.out.trans k13)
                have B13 := Lib.hid (B12.out.keep k13 (fun a => a))
                clear o13 k13 D12 K12 B12 hcr FO
                have hsl2 : sn.length ≤ 2097152 := by rw [HSl.out]; exact hfl2
                go_wp2_with fail
                refine (sameFiles A13 A3 c13 c3 _ _ sn sn _ _ w13 O13.out FO13.out.fls rfl rfl (by omega) (by omega)).mono ?_
                rintro e w14 ⟨rfl, k14⟩
                rw [(sameB_iff sn sn).2 rfl]
                have FO14 := Lib.hid (FO13.out.still k14)
                have D14 := Lib.hid (D13.out.keep k14 (fun _ _ a => a))
                have K14 := Lib.hid (K13.out.trans k14)
                have B14 := Lib.hid (B13.out.keep k14 (fun a => a))
                have hF14 : Hid (∀ k, F k → k < w11.heap.size ∧ k ≠ bA + 1) := Lib.hid (fun k a => by have := hF9.out k a; omega)
                clear k14 D13 K13 B13 FO13 O13
                go_wp2_with fail
                refine (diskSync F p N s w14 D14.out HI.out.asc HI.out.there (fun f hf => by have := Hln.out f hf; omega)).mono ?_
                rintro e w15 ⟨rfl, F15, d15, f15, k15⟩
                rw [sync_doc HI.out] at d15
                have FO15 := Lib.hid (FO14.out.keep k15 (fun k _ a b => by have := hF14.out k b; omega))
                have D15 := Lib.hid d15
                have K15 := Lib.hid (K14.out.trans2 k15 (fun k a b => absurd a (Nat.not_lt.2 (by have := HF.out k b; omega))))
                have B15 := Lib.hid (B14.out.keep k15 (fun a => by have := HF.out _ a; omega))
                have I15 := Lib.hid HI.out.sync
                have Cs15 := Lib.hid (crash_small I15.out (Int.le_trans (big_sync s) G8.out) (by decide))
                have hle : s.sync2.left keep tear = sn := (left_nil I15.out rfl _ _).trans ((sync_seen s).trans HSn.out)
                have hk0 : w15.cell? ⟨w.heap.size, 0, none⟩ = some (.slice KA keep.length kc) := B15.out.cell 0
                have hk1 : w15.cell? ⟨w.heap.size, 1, none⟩ = some (.int .i64 tear) := B15.out.cell 1
                clear d15 f15 k15 D14 K14 B14 FO14
                go_wp2_with fail
                refine (diskCrash F15 (· < w.heap.size) p N s.sync2 w15 KA kc keep tear D15.out I15.out.asc (HKp.out.keep K15.out (fun _ _ _ q => q)) HT.out Cs15.out.1 Cs15.out.2.1 Cs15.out.2.2.1 Cs15.out.2.2.2).mono ?_
                rw [hle]
                rintro e w16 ⟨A16, c16, rfl, o16, k16⟩
                have FO16 := Lib.hid (FO15.out.still k16)
                have O16 := Lib.hid o16.fls
                have K16 := Lib.hid (K15.out.trans k16)
                clear o16 k16
                go_wp2_with fail
                refine (sameFiles A16 A3 c16 c3 _ _ sn sn _ _ w16 O16.out FO16.out.fls rfl rfl (by omega) (by omega)).mono ?_
                rintro e w17 ⟨rfl, k17⟩
                rw [(sameB_iff sn sn).2 rfl]
                go_wp2
                go_ret
                exact ⟨rfl, K16.out.trans k17⟩

end Go.Proofs.Ytnlmkfncdklcdaa
