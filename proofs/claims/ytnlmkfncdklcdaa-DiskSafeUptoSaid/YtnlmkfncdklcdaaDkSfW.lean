/-
  The walk of DiskSafe.
-/
import Derived.Test.YtnlmkfncdklcdaaDkSpeaks
import Derived.Test.YtnlmkfncdklcdaaDkRef7
import Derived.Test.YtnlmkfncdklcdaaDkAny
import Derived.Test.YtnlmkfncdklcdaaDkArg2
import Derived.Test.YtnlmkfncdklcdaaDkRef8
import Derived.Deep.RegionHeld3
namespace Go.Proofs.Ytnlmkfncdklcdaa
open Go.RowKit

theorem OB.nil_of {w : World} {F : Nat → Prop} {A : Option Addr} {n c : Nat} {bs : List UInt8} (h : OB w F (.slice A n c) bs) : A = none → bs = [] ∧ c = 0 := by
  intro q
  obtain ⟨A', c', e, _, _, h3⟩ := Own.form h
  injection e with e1 e2 e3
  subst e1 e3
  exact ⟨List.length_eq_zero_iff.1 (h3 q).1, (h3 q).2⟩

set_option maxRecDepth 100000 in
set_option maxHeartbeats 6400000 in
theorem diskSafe_walk (A : Option Addr) (c : Nat) (fs : List FlS) (B : Option Addr) (bc : Nat) (ops : List DOp) (KA : Option Addr) (kc : Nat) (keep : List Bool) (tear : Int) (w : World) (h : FlsAt w (· < w.heap.size) A fs) (hl : fs.length + totLen fs ≤ 1048576)
    (ho : Rd w (· < w.heap.size) B (ops.flatMap DOp.cells)) (hg : ∀ o ∈ ops, o.good w) (hb : (ops.map DOp.bulk).sum ≤ 1048576) (hk : Rd w (· < w.heap.size) KA (keep.map Value.bool)) (ht : -9223372036854775808 ≤ tear ∧ tear ≤ 9223372036854775807) :
    Calls Try.prog 5 #[.slice A fs.length c, .slice B ops.length bc, .agg #[.slice KA keep.length kc, .int .i64 tear]] w fun e w' => e = .returned (.bool true) ∧ Kept noneS w w' := by
  have HX := Lib.hid h
  have HOp := Lib.hid ho
  have HGd := Lib.hid hg
  have HB := Lib.hid hb
  have HKp := Lib.hid hk
  have HT := Lib.hid ht
  have hol : ops.length ≤ 1048576 := Nat.le_trans (by
    have : ∀ l : List DOp, l.length ≤ (l.map DOp.bulk).sum := by
      intro l
      induction l with
      | nil => exact Nat.le_refl _
      | cons x l ih => simp only [List.length_cons, List.map_cons, List.sum_cons, DOp.bulk]; omega
    exact this ops) hb
  clear h ho hg hb hk ht
  go_enter Try.func5, Try.ntmps5
  go_wp2_with fail
  generalize hwz : w.alloc (.cells #[.slice KA keep.length kc, .int .i64 tear] 40) = wz
  have KZ : Hid (Kept noneS w wz) := Lib.hid (by rw [← hwz]; exact (Kept.refl _ _).alloc _)
  have BZ : Hid (Blk wz w.heap.size 40 #[.slice KA keep.length kc, .int .i64 tear]) := Lib.hid (by rw [← hwz]; exact Blk.new _ _ _)
  clear hwz
  refine (speaks11 wz).mono ?_
  rintro e w1 ⟨rfl, k1⟩
  have K1 := Lib.hid (KZ.out.trans k1)
  have B1 := Lib.hid (BZ.out.keep k1 (fun a => a))
  clear k1 BZ KZ
  go_wp2_with fail
  refine (refOpen A c fs 1099511627776 _ w1 (HX.out.still K1.out) (by omega) (by decide)).mono ?_
  rintro e w2 (⟨he, rfl, k2⟩ | ⟨he, q, G, rfl, _, _, k2⟩)
  · have K2 := Lib.hid (K1.out.trans k2)
    have hne : (openErr fs [] != 0) = true := by simpa using he
    clear k2 he
    go_wp2_with fail
    go_ret
    exact ⟨rfl, K2.out⟩
  · have K2 := Lib.hid (K1.out.trans k2)
    have B2 := Lib.hid (B1.out.keep k2 (fun a => a))
    have HE := Lib.hid he
    clear k2 he B1
    go_wp2_with fail
    refine (copyFiles A c fs _ w2 (HX.out.still K2.out) (by omega)).mono ?_
    rintro e w3 ⟨A3, c3, rfl, o3, k3⟩
    have O3 := Lib.hid o3
    have K3 := Lib.hid (K2.out.trans k3)
    have B3 := Lib.hid (B2.out.keep k3 (fun a => a))
    clear k3 o3 B2
    go_wp2_with fail
    refine (diskOpen A3 c3 fs 1099511627776 _ w3 O3.out.fls (by omega) (by decide)).mono ?_
    rintro e w4 (⟨q, _⟩ | ⟨_, p, F, rfl, hd, hF, hasc, k4⟩)
    · exact absurd HE.out q
    have K4 := Lib.hid (K3.out.trans k4)
    have B4 := Lib.hid (B3.out.keep k4 (fun a => a))
    have D4 := Lib.hid hd
    have I4 : Hid (DInv (openS fs 1099511627776)) := Lib.hid (openS_inv (by omega) hasc)
    have F4 : Hid (∀ k, F k → w.heap.size + 1 ≤ k) := Lib.hid (fun k a => by have h1 := hF k a; have h2 := K3.out.size; have h3 := B3.out.lt; omega)
    have G4 := Lib.hid (big_open (room := 1099511627776) hl)
    clear k4 hd hF hasc B3 O3
    have hfl : fs.length ≤ 1048576 := by omega
    go_wp2
    go_loopw [45] (fun v wr => ∃ (j : Nat) (F : Nat → Prop) (s : DiskS) (N : Nat), j ≤ ops.length ∧ v = .int .i64 j ∧ N ≤ fs.length + j ∧ Hid (DAt wr F p s N) ∧ Hid (DInv s) ∧ Hid (s.big ≤ 1048576 + (((ops.take j).map DOp.bulk).sum : Int)) ∧ Hid (∀ k, F k → w.heap.size + 1 ≤ k) ∧ Hid (Kept noneS w wr) ∧ Hid (Blk wr w.heap.size 40 #[.slice KA keep.length kc, .int .i64 tear])) (fun v _ => ops.length - (intOf v).toNat)
    case atStart => exact ⟨0, F, _, fs.length, Nat.zero_le _, rfl, Nat.le_refl _, D4, I4, Lib.hid (by have := G4.out; simpa using this), F4, K4, B4⟩
    case round =>
      obtain ⟨j, F, s, N, hj, rfl, hN, HD, HI, HBg, HF, HK, HBl⟩ := hrel
      clear D4 I4 G4 F4 K4 B4
      by_cases hlt : j < ops.length
      · obtain ⟨g, o, rfl, hgg, d0, d1, d2, d3, d4, d5⟩ := (HOp.out.keep HK.out (fun _ _ _ q => q.elim)).dop hlt
        have hgood := HGd.out ops[j] (List.getElem_mem hlt)
        have HS1 := Lib.hid (sum_takeD DOp.bulk ops j hlt)
        generalize ops[j] = op at d0 d1 d2 d3 d4 d5 hgood HS1
        have HGo := Lib.hid hgood
        have hji : (j : Int) < (ops.length : Int) := by omega
        have hj0 : (0 : Int) ≤ (j : Int) := by omega
        have HK5 : Hid (Kept noneS wr (wr.alloc (.cells #[.int .i64 op.kind, .int .i64 op.n, .string op.name, .slice op.addr op.data.length op.cap, .slice op.fate.addr op.fate.keep.length op.fate.cap, .int .i64 op.fate.tear] 45))) := Lib.hid ((Kept.refl _ _).alloc _)
        have HB5 := Lib.hid (Blk.new wr 45 #[.int .i64 op.kind, .int .i64 op.n, .string op.name, .slice op.addr op.data.length op.cap, .slice op.fate.addr op.fate.keep.length op.fate.cap, .int .i64 op.fate.tear])
        clear hgood
        go_upto_region 12 with (fail)
        generalize wr.alloc (.cells #[.int .i64 op.kind, .int .i64 op.n, .string op.name, .slice op.addr op.data.length op.cap, .slice op.fate.addr op.fate.keep.length op.fate.cap, .int .i64 op.fate.tear] 45) = w5 at HK5 HB5 ⊢
        have y0 : w5.cell? ⟨wr.heap.size, 0, none⟩ = some (.int .i64 op.kind) := HB5.out.cell 0
        go_cut [60] from 50 to 60 (fun v wx => (∃ b : Bool, v = .bool b) ∧ w5 = wx)
        case first =>
          go_wp2
          all_goals
            go_meet
            case rel => exact ⟨⟨_, rfl⟩, rfl⟩
        case rest =>
          obtain ⟨⟨b, rfl⟩, rfl⟩ := hcut
          have y2 : w5.cell? ⟨wr.heap.size, 2, none⟩ = some (.string op.name) := HB5.out.cell 2
          have y3 : w5.cell? ⟨wr.heap.size, 3, none⟩ = some (.slice op.addr op.data.length op.cap) := HB5.out.cell 3
          have hby : op.name.size + op.data.length + 4 ≤ op.bulk := by unfold DOp.bulk; omega
          have hbm := sum_takeD_le DOp.bulk ops (j + 1)
          rw [HS1.out] at hbm
          have hbk : op.bulk ≤ 1048576 ∧ ((ops.take j).map DOp.bulk).sum ≤ 1048576 := by have := HB.out; omega
          clear hbm
          have Hbp := Lib.hid (big_parts HI.out HBg.out)
          rcases b with _ | _
          · go_wp2
            go_roundw
            case rel => exact ⟨j + 1, F, s, N, by omega, by go_num, by omega, Lib.hid (HD.out.keep HK5.out (fun _ _ a => a)), HI, Lib.hid (by have h1 := HBg.out; rw [HS1.out]; omega), HF, Lib.hid (HK.out.trans HK5.out), Lib.hid (HBl.out.keep HK5.out (fun a => a))⟩
            case measure => simp [intOf]; omega
          · have HRB : Hid (RB w5 (· < w.heap.size) op.addr op.data) := Lib.hid ((HGo.out.2.2.1.still HK.out).still HK5.out)
            have hFl := Lib.hid HD.out.lt
            have Hap := Lib.hid (big_app s op.name op.data)
            go_upto_region 13 with (fail)
            go_region_held3 (fun W => W.cell? ⟨wr.heap.size, 2, none⟩ = some (.string op.name) ∧ W.cell? ⟨wr.heap.size, 3, none⟩ = some (.slice op.addr op.data.length op.cap))
              (first | exact ⟨y2, y3⟩ | exact ⟨s2, s3⟩ | exact ⟨s2k, s3k⟩ | go_keep)
              (first
                | (go_at_call 20; refine (clone_any op.addr op.cap op.data _ w5.drew HRB.out.drew (by omega)).mono ?_; rintro e w6 ⟨A6, c6, rfl, o6, k6⟩; have kA : Kept noneS w5 w6 := ((Kept.refl noneS w5).drew).trans k6; have s2 := (kA.cell (lt_of_cell y2) (fun a => a)).trans y2; have s3 := (kA.cell (lt_of_cell y3) (fun a => a)).trans y3; have O6 := Lib.hid o6; have K6 := Lib.hid kA; clear o6 k6 kA)
                | (go_at_call 19; refine (appendAny F (w5.drew.heap.size ≤ ·) p N s op.name A6 op.data c6 w6 (HD.out.keep (HK5.out.trans K6.out) (fun _ _ a => a)) HI.out (by omega) (by have := Hbp.out; omega) (OB.rb O6.out).2 O6.out.nil_of (fun k a b => absurd b (Nat.not_le.2 (by have h1 := hFl.out k a; have h2 := HK5.out.size; exact Nat.lt_of_lt_of_le h1 h2))) (by have := Hbp.out; omega) (by unfold maxLen; omega)).mono ?_; rintro e w7 ⟨rfl, F7, d7, f7, k7⟩; have s2k := (k7.cell (lt_of_cell s2) (fun a => Nat.lt_irrefl _ (hFl.out _ a))).trans s2; have s3k := (k7.cell (lt_of_cell s3) (fun a => Nat.lt_irrefl _ (hFl.out _ a))).trans s3; have D7 := Lib.hid d7; have F7' := Lib.hid f7; have K7 := Lib.hid k7; clear d7 f7 k7))
            all_goals
              go_wp2
              go_roundw
              case rel => exact ⟨j + 1, F7, _, N + 1, by omega, by go_num, by omega, D7, Lib.hid (HI.out.appOut _ _), Lib.hid (by have h1 := HBg.out; have h2 := Hap.out; rw [HS1.out]; omega), Lib.hid (fun k a => (F7'.out k a).elim (HF.out k) (fun b => by have h1 := HK.out.size; have h2 := HK5.out.size; have h3 := K6.out.size; have h4 := HBl.out.lt; omega)), Lib.hid ((HK.out.trans (HK5.out.trans K6.out)).trans2 K7.out (fun k a b => absurd a (Nat.not_lt.2 (by have := HF.out k b; omega)))), Lib.hid ((HBl.out.keep (HK5.out.trans K6.out) (fun a => a)).keep K7.out (fun a => by have := HF.out _ a; omega))⟩
              case measure => simp [intOf]; omega
      · obtain rfl : j = ops.length := by omega
        rw [List.take_length] at HBg
        have hbl := HB.out
        have Hbp := Lib.hid (big_parts HI.out HBg.out)
        have HLen : Hid (∀ f ∈ s.files, f.data.length ≤ 140737488351232) := Lib.hid (fun f hf => by have h1 := mem_le_sum _ hf; have h2 := HI.out.used; have h3 := Hbp.out; omega)
        go_wp2_with fail
        refine (diskSync F p N s wr HD.out HI.out.asc HI.out.there (fun f hf => by have := HLen.out f hf; omega)).mono ?_
        rintro e w8 ⟨rfl, F8, d8, f8, k8⟩
        rw [sync_doc HI.out] at d8
        have D8 := Lib.hid d8
        have HF8 := Lib.hid (fun k a => (f8 k a).elim (HF.out k) (fun b => by have h1 := HK.out.size; have h4 := HBl.out.lt; omega))
        have K8 := Lib.hid (HK.out.trans2 k8 (fun k a b => absurd a (Nat.not_lt.2 (by have := HF.out k b; omega))))
        have B8 := Lib.hid (HBl.out.keep k8 (fun a => by have := HF.out _ a; omega))
        have I8 := Lib.hid HI.out.sync
        have G8 : Hid (s.sync2.big ≤ 2097152) := Lib.hid (by have h1 := big_sync s; have h2 := HBg.out; omega)
        have L8 := Lib.hid D8.out.lt
        have hsf : s.sync2.left [] 0 = s.sync2.seen := left_nil I8.out rfl _ _
        obtain ⟨sf, hse⟩ : ∃ sf, s.sync2.seen = sf := ⟨_, rfl⟩
        have HHo : Hid (s.sync2.holds sf) := Lib.hid (hse ▸ holds_sync s)
        have hsl : sf.length = s.sync2.files.length := by rw [← hse]; exact List.length_map _
        rw [hse] at hsf
        clear f8 k8 d8 HD HI HBg HF HK HBl hse
        go_wp2_with fail
        have Cs8 := Lib.hid (crash_small I8.out G8.out (by decide))
        refine (diskCrash F8 (fun _ => True) p N s.sync2 w8 none 0 [] 0 D8.out I8.out.asc (.inl rfl) (by decide) Cs8.out.1 Cs8.out.2.1 Cs8.out.2.2.1 Cs8.out.2.2.2).mono ?_
        rw [hsf]
        rintro e w9 ⟨A9, c9, rfl, o9, k9⟩
        have hsl2 : sf.length ≤ 2097152 := by have h1 := big_parts I8.out G8.out; omega
        have S9 : Hid (FlsAt w9 (fun k => w8.heap.size ≤ k ∧ k < w9.heap.size) A9 sf) := Lib.hid (o9.fls.mono (fun k a b => ⟨b, a⟩))
        have D9 := Lib.hid (D8.out.keep k9 (fun _ _ a => a))
        have K9 := Lib.hid (K8.out.trans k9)
        have B9 := Lib.hid (B8.out.keep k9 (fun a => a))
        have Z9 := Lib.hid k9.size
        clear o9 k9 D8 K8 B8 Cs8 hsf hsl
        have hN2 : N ≤ 2097152 := by omega
        clear hN
        generalize hS1 : s.sync2 = s1 at *
        clear hS1 Hbp HLen
        go_wp2
        go_loopw [76] (fun v wr => ∃ (j : Nat) (F : Nat → Prop) (s : DiskS) (N : Nat), j ≤ ops.length ∧ v = .int .i64 j ∧ N ≤ 2097152 + j ∧ Hid (DAt wr F p s N) ∧ Hid (DInv s) ∧ Hid (s.big ≤ 2097152 + (((ops.take j).map DOp.bulk).sum : Int)) ∧ Hid (∀ k, F k → w.heap.size + 1 ≤ k) ∧ Hid (∀ k, F k → k < w8.heap.size ∨ w9.heap.size ≤ k) ∧ Hid (s.holds sf) ∧ Hid (FlsAt wr (fun k => w8.heap.size ≤ k ∧ k < w9.heap.size) A9 sf) ∧ Hid (Kept noneS w wr) ∧ Hid (w9.heap.size ≤ wr.heap.size) ∧ Hid (Blk wr w.heap.size 40 #[.slice KA keep.length kc, .int .i64 tear])) (fun v _ => ops.length - (intOf v).toNat)
        case atStart => exact ⟨0, F8, _, N, Nat.zero_le _, rfl, by omega, D9, I8, Lib.hid (by have := G8.out; simpa using this), HF8, Lib.hid (fun k a => .inl (L8.out k a)), HHo, S9, K9, Lib.hid (Nat.le_refl _), B9⟩
        case round =>
          clear D9 I8 G8 HF8 HHo S9 K9 B9 F L8 F8
          clear hN2 N s
          obtain ⟨j, F, s, N, hj, rfl, hN, HD, HI, HBg, HF, HF2, HHo, HSf, HK, HZ, HBl⟩ := hrel
          by_cases hlt : j < ops.length
          · obtain ⟨g, o, rfl, hgg, d0, d1, d2, d3, d4, d5⟩ := (HOp.out.keep HK.out (fun _ _ _ q => q.elim)).dop hlt
            have hgood := HGd.out ops[j] (List.getElem_mem hlt)
            have HS1 := Lib.hid (sum_takeD DOp.bulk ops j hlt)
            generalize ops[j] = op at d0 d1 d2 d3 d4 d5 hgood HS1
            have HGo := Lib.hid hgood
            have hji : (j : Int) < (ops.length : Int) := by omega
            have hj0 : (0 : Int) ≤ (j : Int) := by omega
            have HK5 : Hid (Kept noneS wr (wr.alloc (.cells #[.int .i64 op.kind, .int .i64 op.n, .string op.name, .slice op.addr op.data.length op.cap, .slice op.fate.addr op.fate.keep.length op.fate.cap, .int .i64 op.fate.tear] 45))) := Lib.hid ((Kept.refl _ _).alloc _)
            have HB5 := Lib.hid (Blk.new wr 45 #[.int .i64 op.kind, .int .i64 op.n, .string op.name, .slice op.addr op.data.length op.cap, .slice op.fate.addr op.fate.keep.length op.fate.cap, .int .i64 op.fate.tear])
            clear hgood
            go_upto_region 20 with (fail)
            generalize wr.alloc (.cells #[.int .i64 op.kind, .int .i64 op.n, .string op.name, .slice op.addr op.data.length op.cap, .slice op.fate.addr op.fate.keep.length op.fate.cap, .int .i64 op.fate.tear] 45) = w5 at HK5 HB5 ⊢
            have y2 : w5.cell? ⟨wr.heap.size, 2, none⟩ = some (.string op.name) := HB5.out.cell 2
            have y3 : w5.cell? ⟨wr.heap.size, 3, none⟩ = some (.slice op.addr op.data.length op.cap) := HB5.out.cell 3
            have hby : op.name.size + op.data.length + 4 ≤ op.bulk := by unfold DOp.bulk; omega
            have hbm := sum_takeD_le DOp.bulk ops (j + 1)
            rw [HS1.out] at hbm
            have hbk : op.bulk ≤ 1048576 ∧ ((ops.take j).map DOp.bulk).sum ≤ 1048576 := by omega
            clear hbm
            have Hbp := Lib.hid (big_parts HI.out HBg.out)
            have HRB : Hid (RB w5 (· < w.heap.size) op.addr op.data) := Lib.hid ((HGo.out.2.2.1.still HK.out).still HK5.out)
            have hFl := Lib.hid HD.out.lt
            have Hap := Lib.hid (big_app s op.name op.data)
            go_region_held3 (fun W => W.cell? ⟨wr.heap.size, 2, none⟩ = some (.string op.name) ∧ W.cell? ⟨wr.heap.size, 3, none⟩ = some (.slice op.addr op.data.length op.cap))
              (first | exact ⟨y2, y3⟩ | exact ⟨s2, s3⟩ | exact ⟨s2k, s3k⟩ | go_keep)
              (first
                | (go_at_call 20; refine (clone_any op.addr op.cap op.data _ w5.drew HRB.out.drew (by omega)).mono ?_; rintro e w6 ⟨A6, c6, rfl, o6, k6⟩; have kA : Kept noneS w5 w6 := ((Kept.refl noneS w5).drew).trans k6; have s2 := (kA.cell (lt_of_cell y2) (fun a => a)).trans y2; have s3 := (kA.cell (lt_of_cell y3) (fun a => a)).trans y3; have O6 := Lib.hid o6; have K6 := Lib.hid kA; clear o6 k6 kA)
                | (go_at_call 19; refine (appendAny F (w5.drew.heap.size ≤ ·) p N s op.name A6 op.data c6 w6 (HD.out.keep (HK5.out.trans K6.out) (fun _ _ a => a)) HI.out (by omega) (by have := Hbp.out; omega) (OB.rb O6.out).2 O6.out.nil_of (fun k a b => absurd b (Nat.not_le.2 (by have h1 := hFl.out k a; have h2 := HK5.out.size; exact Nat.lt_of_lt_of_le h1 h2))) (by have := Hbp.out; omega) (by unfold maxLen; omega)).mono ?_; rintro e w7 ⟨rfl, F7, d7, f7, k7⟩; have s2k := (k7.cell (lt_of_cell s2) (fun a => Nat.lt_irrefl _ (hFl.out _ a))).trans s2; have s3k := (k7.cell (lt_of_cell s3) (fun a => Nat.lt_irrefl _ (hFl.out _ a))).trans s3; have D7 := Lib.hid d7; have F7' := Lib.hid f7; have K7 := Lib.hid k7; clear d7 f7 k7))
            all_goals
              have Z6 : Hid (wr.heap.size ≤ w6.heap.size) := Lib.hid (Nat.le_trans HK5.out.size K6.out.size)
              go_wp2
              go_roundw
              case rel => exact ⟨j + 1, F7, _, N + 1, by omega, by go_num, by omega, D7, Lib.hid (HI.out.appOut _ _), Lib.hid (by have h1 := HBg.out; have h2 := Hap.out; rw [HS1.out]; omega), Lib.hid (fun k a => (F7'.out k a).elim (HF.out k) (fun b => by have h1 := Z6.out; have h4 := HBl.out.lt; omega)), Lib.hid (fun k a => (F7'.out k a).elim (HF2.out k) (fun b => .inr (by have h1 := Z6.out; have h2 := HZ.out; omega))), Lib.hid (holds_app HI.out HHo.out _ _), Lib.hid ((HSf.out.still (HK5.out.trans K6.out)).keep K7.out (fun k _ a b => by have h1 := HF2.out k b; omega)), Lib.hid ((HK.out.trans (HK5.out.trans K6.out)).trans2 K7.out (fun k a b => absurd a (Nat.not_lt.2 (by have := HF.out k b; omega)))), Lib.hid (by have h1 := Z6.out; have h2 := HZ.out; have h3 := K7.out.size; omega), Lib.hid ((HBl.out.keep (HK5.out.trans K6.out) (fun a => a)).keep K7.out (fun a => by have := HF.out _ a; omega))⟩
              case measure => simp [intOf]; omega
          · obtain rfl : j = ops.length := by omega
            rw [List.take_length] at HBg
            have I10 := HI
            have Cs := Lib.hid (crash_small (M := 3145728) HI.out (by have := HBg.out; omega) (by decide))
            have hk0 : wr.cell? ⟨w.heap.size, 0, none⟩ = some (.slice KA keep.length kc) := HBl.out.cell 0
            have hk1 : wr.cell? ⟨w.heap.size, 1, none⟩ = some (.int .i64 tear) := HBl.out.cell 1
            have HLf : Hid (∀ f ∈ sf, (∃ x ∈ s.left keep tear, x.key = f.key) ∧ ∀ x ∈ s.left keep tear, x.key = f.key → f.data <+: x.data) := Lib.hid (fun f hf => holds_left HI.out HHo.out keep tear hf)
            have hll : (s.left keep tear).length ≤ 3145728 := by
              rw [left_one HI.out, List.length_map]
              have := big_parts HI.out HBg.out
              omega
            go_wp2_with fail
            refine (diskCrash F (· < w.heap.size) p N s wr KA kc keep tear HD.out HI.out.asc (HKp.out.keep HK.out (fun _ _ _ q => q)) HT.out Cs.out.1 Cs.out.2.1 Cs.out.2.2.1 Cs.out.2.2.2).mono ?_
            generalize s.left keep tear = lf at HLf hll ⊢
            rintro e w10 ⟨A10, c10, rfl, o10, k10⟩
            have S10 := Lib.hid (HSf.out.still k10)
            have L10 := Lib.hid o10.fls
            have K10 := Lib.hid (HK.out.trans k10)
            clear HD HI HBg HF HF2 HHo HSf HK HZ HBl Cs I10 o10 k10 hk0 hk1
            go_wp2
            go_loopw [93] (fun v wr => ∃ j : Nat, j ≤ sf.length ∧ v = .int .i64 j ∧ Hid (Kept noneS w10 wr)) (fun v _ => sf.length - (intOf v).toNat)
            case atStart => exact ⟨0, Nat.zero_le _, rfl, Lib.hid (Kept.refl _ _)⟩
            case round =>
              obtain ⟨j, hj, rfl, HK⟩ := hrel
              obtain ⟨wb, rfl⟩ : ∃ wb, wb = wr := ⟨wr, rfl⟩
              by_cases hlt : j < sf.length
              · obtain ⟨g, o, B, d, rfl, _, ⟨a1, a2⟩, ⟨b1, b2, b3, b4⟩, q0, q1⟩ := (S10.out.still HK.out).at_ hlt
                have HM := Lib.hid (HLf.out sf[j] (List.getElem_mem hlt))
                generalize sf[j] = f at *
                have hji : (j : Int) < (sf.length : Int) := by omega
                have hj0 : (0 : Int) ≤ (j : Int) := by omega
                have HK5 : Hid (Kept noneS wb (wb.alloc (.cells #[.string f.name, .slice B f.data.length d] 36))) := Lib.hid ((Kept.refl _ _).alloc _)
                have HB5 := Lib.hid (Blk.new wb 36 #[.string f.name, .slice B f.data.length d])
                have HRB := Lib.hid b1
                clear b1
                go_wp2
                go_loopw [19, 99] (fun fd v wx => ∃ k : Nat, k ≤ lf.length ∧ v = .int .i64 k ∧ fd = .bool (foundB lf f.key k) ∧ Hid (Kept noneS wb wx) ∧ Hid (Blk wx wb.heap.size 36 #[.string f.name, .slice B f.data.length d])) (fun _ v _ => lf.length - (intOf v).toNat)
                case atStart => exact ⟨0, Nat.zero_le _, rfl, rfl, HK5, HB5⟩
                case round =>
                  obtain ⟨k, hk, rfl, rfl, HKx, HBx⟩ := hrel
                  by_cases hlt2 : k < lf.length
                  · obtain ⟨g', o', B', d', rfl, _, ⟨a3, a4⟩, ⟨b5, b6, b7, b8⟩, q2, q3⟩ := (L10.out.still (HK.out.trans HKx.out)).at_ hlt2
                    have HX := Lib.hid (HM.out.2 lf[k] (List.getElem_mem hlt2))
                    have hki : (k : Int) < (lf.length : Int) := by omega
                    have hk0 : (0 : Int) ≤ (k : Int) := by omega
                    have hfo : lf[k].key = f.key → foundB lf f.key (k + 1) = true := found_hit hlt2
                    have hmi : lf[k].key ≠ f.key → foundB lf f.key (k + 1) = foundB lf f.key k := found_miss hlt2
                    generalize lf[k] = x at *
                    have HKa : Hid (Kept noneS wr (wr.alloc (.cells #[.string x.name, .slice B' x.data.length d'] 36))) := Lib.hid ((Kept.refl _ _).alloc _)
                    have HBa := Lib.hid (Blk.new wr 36 #[.string x.name, .slice B' x.data.length d'])
                    go_upto_region 30 with (fail)
                    generalize wr.alloc (.cells #[.string x.name, .slice B' x.data.length d'] 36) = wa at HKa HBa ⊢
                    have f0 : wa.cell? ⟨wb.heap.size, 0, none⟩ = some (.string f.name) := (HBx.out.keep HKa.out (fun a => a)).cell 0
                    have f1 : wa.cell? ⟨wb.heap.size, 1, none⟩ = some (.slice B f.data.length d) := (HBx.out.keep HKa.out (fun a => a)).cell 1
                    have x0 : wa.cell? ⟨wr.heap.size, 0, none⟩ = some (.string x.name) := HBa.out.cell 0
                    have x1 : wa.cell? ⟨wr.heap.size, 1, none⟩ = some (.slice B' x.data.length d') := HBa.out.cell 1
                    by_cases hname : x.key = f.key
                    · have hn1 : (x.name.toList == f.name.toList) = true := by simpa [FlS.key] using hname
                      have hp := HX.out hname
                      have hle : (f.data.length : Int) ≤ (x.data.length : Int) := by have := hp.length_le; omega
                      have hge : decide ((f.data.length : Int) ≤ (x.data.length : Int)) = true := decide_eq_true hle
                      have hfx : x.data.take f.data.length = f.data := (List.prefix_iff_eq_take.1 hp).symm
                      have hlc : f.data.length ≤ d' := by omega
                      have hrb : RB wr (· < wr.heap.size) B' f.data := by
                        have := (b5.mono (G := (· < wr.heap.size)) (fun _ h _ => h)).take f.data.length
                        rw [hfx] at this
                        exact this
                      have hQ : ∀ m, Calls Try.prog 22 #[.slice B' f.data.length d', .slice B f.data.length d] (wa.drewN m) fun e w' => e = .returned (.bool true) ∧ w' = wa.drewN m := fun m => by
                        refine (same_any B' B d' d _ _ f.data f.data _ _ _ ((hrb.still HKa.out).drewN m) (((HRB.out.still HKx.out).still HKa.out).drewN m) rfl rfl).mono ?_
                        rintro e w' ⟨rfl, rfl⟩
                        exact ⟨by simp, rfl⟩
                      have HQ := Lib.hid hQ
                      clear hQ
                      go_wp2_with fail
                      go_quiet (first | (go_at_call 22; exact Calls.quiet_of_same (HQ.out _)))
                      go_wp2
                      go_roundw
                      case rel => exact ⟨k + 1, by omega, by go_num, by rw [hfo hname], Lib.hid ((HKx.out.trans HKa.out).drewN _), Lib.hid ((HBx.out.keep HKa.out (fun a => a)).keep ((Kept.refl noneS wa).drewN _) (fun a => a))⟩
                      case measure => simp [intOf]; omega
                    · have hn1 : (x.name.toList == f.name.toList) = false := by simpa [FlS.key] using hname
                      go_wp2
                      go_roundw
                      case rel => exact ⟨k + 1, by omega, by go_num, by rw [hmi hname], Lib.hid (HKx.out.trans HKa.out), Lib.hid (HBx.out.keep HKa.out (fun a => a))⟩
                      case measure => simp [intOf]; omega
                  · obtain rfl : k = lf.length := by omega
                    rw [found_all HM.out.1]
                    go_wp2
                    go_roundw
                    case rel => exact ⟨j + 1, by omega, by go_num, Lib.hid (HK.out.trans HKx.out)⟩
                    case measure => simp [intOf]; omega
              · obtain rfl : j = sf.length := by omega
                go_wp2
                go_ret
                exact ⟨rfl, K10.out.trans HK.out⟩

end Go.Proofs.Ytnlmkfncdklcdaa
