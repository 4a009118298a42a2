/-
  The walk of OctetReads.
-/
import Derived.Test.YtepligggofbegaaOctL
import Derived.Test.YtepligggofbegaaRefR2
import Derived.Test.YtepligggofbegaaOctOps
namespace Go.Proofs.Ytepligggofbegaa
open Go.RowKit

theorem RS.raw_bs (s : RS) (n : Int) : (s.raw n).1.bs = s.bs := by unfold RS.raw; split <;> (try split) <;> rfl
theorem RS.bit_bs (s : RS) : s.bit.1.bs = s.bs := by unfold RS.bit; split <;> (try split) <;> (try split) <;> rfl
theorem RS.text_bs (s : RS) (k : Nat) : (s.text k).1.bs = s.bs := by
  unfold RS.text
  split
  · exact RS.num_bs s k
  · split
    · exact RS.num_bs s k
    · rw [RS.raw_bs]; exact RS.num_bs s k
theorem RS.raw_le (s : RS) (n : Int) : (s.raw n).2.length ≤ s.bs.length := by
  unfold RS.raw
  split
  · simp
  · split
    · simp
    · simp [RS.left]; omega

theorem nat_mask3 (n : Nat) : n &&& 7 = n % 8 := Nat.and_two_pow_sub_one_eq_mod n 3
theorem and7 (x : Int) : bits .and .i64 x 7 = ((x % 8).toNat : Int) := by
  have h1 : (BitVec.ofInt 64 x).toNat % 8 = (x % 8).toNat := by
    rw [BitVec.toNat_ofInt]
    omega
  show IntKind.i64.wrap ((BitVec.ofInt 64 x &&& BitVec.ofInt 64 7).toNat : Int) = _
  rw [BitVec.toNat_and, show (BitVec.ofInt 64 7).toNat = 7 from rfl, nat_mask3, h1, IntKind.wrap_i64]
  omega

theorem OB.fill_cells {w : World} {F : Nat → Prop} {A : Option Addr} {n cap j : Nat} {bs : List UInt8} (h : OB w F (.slice A n cap) bs) (hl : bs.length = n) (hj : j < n) (b : UInt8) :
    ∃ g q, A = some ⟨g, 0, none⟩ ∧ F g ∧ w.cell? ⟨g, j, none⟩ = some (.int .u8 q) ∧ w.frozen? ⟨g, j, none⟩ = false ∧ ∃ bs', bs'.length = n ∧ OB (w.setCell ⟨g, j, none⟩ (.int .u8 (b.toNat : Int))) F (.slice A n cap) bs' := by
  obtain ⟨g, h1, h2, h3, h4, h5⟩ := OB.store h (j := j) (by omega) b
  exact ⟨g, _, h1, h2, h3, h4, bs.set j b, by rw [List.length_set]; exact hl, h5⟩

/-- What the rounds of OctetReads keep. -/
def ReadAt (w W : World) (FR FM : Nat → Prop) (r m : Nat) (b : List UInt8) (s : RS) : Prop := RSAt W FR r s ∧ RRAt W FM m s ∧ s.bs = b ∧ Kept noneS w W

structure ReadSt (w : World) (B : Nat) (FR FM : Nat → Prop) (r m : Nat) : Prop where
  r1 : w.heap.size ≤ r
  r2 : r < B
  m1 : w.heap.size ≤ m
  m2 : m < B
  ne : r ≠ m
  fr : ∀ k, FR k → w.heap.size ≤ k ∧ k < B ∧ k ≠ r ∧ k ≠ m
  fm : ∀ k, FM k → k < w.heap.size

theorem ReadAt.both {w W W1 W2 : World} {B : Nat} {FR FM : Nat → Prop} {r m : Nat} {b : List UInt8} {s' : RS} (st : ReadSt w B FR FM r m) (h : Kept noneS w W) (k1 : Kept (· = r) W W1) (h1 : RSAt W1 FR r s') (k2 : Kept (· = m) W1 W2) (h2 : RRAt W2 FM m s') (hb : s'.bs = b) : ReadAt w W2 FR FM r m b s' := by
  refine ⟨h1.keep k2 ?_, h2, hb, (h.trans2 k1 ?_).trans2 k2 ?_⟩
  · rintro k _ (a | a) q
    · exact (st.fr k a).2.2.2 q
    · exact st.ne (a.symm.trans q)
  · intro i hi q
    have := st.r1
    omega
  · intro i hi q
    have := st.m1
    omega
theorem ReadAt.away {w W W1 : World} {B : Nat} {FR FM S : Nat → Prop} {r m : Nat} {b : List UInt8} {s : RS} (st : ReadSt w B FR FM r m) (h : ReadAt w W FR FM r m b s) (hB : B ≤ W.heap.size) (k1 : Kept S W W1) (hS : ∀ k, S k → W.heap.size ≤ k) : ReadAt w W1 FR FM r m b s := by
  obtain ⟨h1, h2, h3, h4⟩ := h
  refine ⟨h1.keep k1 ?_, h2.keep k1 ?_, h3, h4.trans2 k1 ?_⟩
  · intro k hk _ q
    have := hS k q
    omega
  · intro k hk _ q
    have := hS k q
    omega
  · intro k hk q
    have := hS k q
    have := h4.size
    omega
theorem ReadAt.still {w W W1 : World} {FR FM : Nat → Prop} {r m : Nat} {b : List UInt8} {s : RS} (h : ReadAt w W FR FM r m b s) (k1 : Kept noneS W W1) : ReadAt w W1 FR FM r m b s :=
  ⟨h.1.still k1, h.2.1.still k1, h.2.2.1, h.2.2.2.trans k1⟩
/-- A Reader's step moves the Reader alone; the document's stays. -/
theorem ReadAt.ref {w W W1 : World} {B : Nat} {FR FM : Nat → Prop} {r m : Nat} {b : List UInt8} {s : RS} (st : ReadSt w B FR FM r m) (h : ReadAt w W FR FM r m b s) (k1 : Kept (· = r) W W1) : RRAt W1 FM m s := by
  refine h.2.1.keep k1 ?_
  rintro k _ (a | a) q
  · have := st.fm k a
    have := st.r1
    omega
  · exact st.ne (q.symm.trans a)

set_option maxHeartbeats 6400000 in
set_option maxRecDepth 100000 in
theorem octetReads_walk (A : Option Addr) (c : Nat) (b : List UInt8) (A2 : Option Addr) (c2 : Nat) (ops : List OOp) (w : World) (hb : RB w (· < w.heap.size) A b) (hbc : b.length ≤ c) (hbm : c ≤ 140737488351232) (hA : A = none → b = [] ∧ c = 0) (hr : Rd w (· < w.heap.size) A2 (ops.flatMap OOp.cells)) (hg : ∀ o ∈ ops, o.good w) (hl : ops.length * 64 ≤ 140737488351232) :
    Calls Try.prog 4 #[.slice A b.length c, .slice A2 ops.length c2] w fun e w' => e = .returned (.bool true) ∧ Kept noneS w w' := by
  have HB := Lib.hid hb
  have HR := Lib.hid hr
  have HG := Lib.hid hg
  clear hb hr hg hA
  go_enter Try.func4, Try.ntmps4
  go_wp2_with fail
  refine (speaks_any w).mono ?_
  rintro e w1 ⟨rfl, k1⟩
  have K1 := Lib.hid k1
  have z1 := k1.size
  clear k1
  go_wp2_with fail
  refine (clone_any A c b _ w1 (HB.out.still K1.out) (by omega)).mono ?_
  rintro e w2 ⟨A3, c3, rfl, o3, k2⟩
  have O2 := Lib.hid (Own.mono o3 (G := fun k => w1.heap.size ≤ k ∧ k < w2.heap.size) (fun k a q => ⟨q, a⟩))
  have K2 := Lib.hid (K1.out.trans k2)
  have z2 := k2.size
  obtain ⟨_, _, e9, _, _, hn3⟩ := Own.form o3
  injection e9 with e9 _ e9c
  subst e9 e9c
  have HN3 := Lib.hid hn3
  clear o3 k2 hn3
  go_wp2_with fail
  refine (newRS A3 c3 b.length b rfl _ w2 (OB.rb O2.out).2 (fun q => ⟨List.length_eq_zero_iff.1 (HN3.out q).1, (HN3.out q).2⟩) (by omega)).mono ?_
  rintro e w3 ⟨r, rfl, hr1, hr2, h3, k3⟩
  have R3 := Lib.hid h3
  have K3 := Lib.hid (K2.out.trans k3)
  have O3 := Lib.hid (Own.keep0 O2.out k3 (fun _ _ _ q => q.elim))
  have z3 := k3.size
  clear h3 k3 O2
  have RM : Hid (RRAt (w3.alloc (.cells #[.slice A b.length c, .int .i64 0, .int .i64 0, .int .i64 0] 30)) (· < w.heap.size) w3.heap.size ⟨b, 0, 0, 0⟩) :=
    Lib.hid ⟨⟨A, c, Blk.new _ _ _, (HB.out.still K3.out).alloc _, hbc, by unfold maxLen; omega, by omega⟩, by simp [RS.ok]⟩
  have R4 := Lib.hid (R3.out.still ((Kept.refl noneS w3).alloc (.cells #[.slice A b.length c, .int .i64 0, .int .i64 0, .int .i64 0] 30)))
  have K4 := Lib.hid (K3.out.alloc (.cells #[.slice A b.length c, .int .i64 0, .int .i64 0, .int .i64 0] 30))
  have O4 := Lib.hid (Own.alloc O3.out (.cells #[.slice A b.length c, .int .i64 0, .int .i64 0, .int .i64 0] 30))
  have hz4 : w3.heap.size < (w3.alloc (.cells #[.slice A b.length c, .int .i64 0, .int .i64 0, .int .i64 0] 30)).heap.size := by simp
  clear R3 O3
  go_wp2_with fail
  generalize w3.alloc (.cells #[.slice A b.length c, .int .i64 0, .int .i64 0, .int .i64 0] 30) = w4 at RM R4 K4 O4 hz4 ⊢
  obtain ⟨m, HM⟩ : ∃ m, Hid (w3.heap.size = m) := ⟨_, Lib.hid rfl⟩
  rw [HM.out] at RM z3 hr2 hz4 ⊢
  refine (same_any A3 A c3 c b.length b.length b b _ _ w4 (OB.rb O4.out).2 (HB.out.still K4.out) rfl rfl).mono ?_
  rintro e w5 ⟨rfl, rfl⟩
  have e2 : (b == b) = true := by simp
  rw [e2]
  clear e2
  have ST : Hid (ReadSt w w4.heap.size (fun k => w2.heap.size ≤ k ∧ k < r) (· < w.heap.size) r m) := Lib.hid ⟨by omega, by omega, by omega, by omega, by omega, fun k q => by omega, fun k q => q⟩
  go_wp2
  go_loopw [33] (fun i wr => ∃ (j : Nat) (bs : List UInt8), j ≤ b.length ∧ i = .int .i64 j ∧ bs.length = b.length ∧ OB wr (fun k => w1.heap.size ≤ k ∧ k < w2.heap.size) (.slice A3 b.length c3) bs ∧ Kept (fun k => w1.heap.size ≤ k ∧ k < w2.heap.size) w4 wr) (fun i _ => b.length - (intOf i).toNat)
  case atStart => exact ⟨0, b, Nat.zero_le _, rfl, rfl, O4.out, Kept.refl _ _⟩
  case round =>
    obtain ⟨j, bs, hj, rfl, hbl, hob, hk⟩ := hrel
    have OBr := Lib.hid hob
    have KR := Lib.hid hk
    have HBl := Lib.hid hbl
    clear hob hk hbl
    by_cases hlt : j < b.length
    · obtain ⟨g, q, hA3, hgF, d0, d1, bs', hbs', hob'⟩ := OB.fill_cells OBr.out HBl.out hlt 0xee
      subst hA3
      have OB' := Lib.hid hob'
      have HBs' := Lib.hid hbs'
      have HGF := Lib.hid hgF
      clear hob' hbs' hgF
      go_wp2
      go_roundw
      case rel => exact ⟨j + 1, bs', by omega, by go_num, HBs'.out, OB'.out, KR.out.setCell (p := ⟨g, j, none⟩) (fun _ => HGF.out) _⟩
      case measure => simp [intOf]; omega
    · obtain ⟨w6, rfl⟩ : ∃ w6 : World, w6 = wr := ⟨_, rfl⟩
      have hz6 := KR.out.size
      have RA : Hid (ReadAt w w6 (fun k => w2.heap.size ≤ k ∧ k < r) (· < w.heap.size) r m b ⟨b, 0, 0, 0⟩) := Lib.hid ⟨R4.out.keep KR.out (by rintro k _ (a | a) q <;> omega), RM.out.keep KR.out (by rintro k _ (a | a) q <;> omega), rfl, K4.out.trans2 KR.out (fun k a q => absurd a (by omega))⟩
      obtain ⟨B, HBB⟩ : ∃ B, Hid (w4.heap.size = B) := ⟨_, Lib.hid rfl⟩
      rw [HBB.out] at ST hz6
      clear OBr R4 RM KR HBl O4 HBB HM K1 K2 K3
      go_wp2
      generalize hFR : (fun k => w2.heap.size ≤ k ∧ k < r) = FR at ST RA
      generalize hFM : (fun k => k < w.heap.size) = FM at ST RA
      clear hFR hFM
      go_loopw [42] (fun i wr => ∃ (j : Nat) (s : RS), j ≤ ops.length ∧ i = .int .i64 j ∧ ReadAt w wr FR FM r m b s ∧ B ≤ wr.heap.size) (fun i _ => ops.length - (intOf i).toNat)
      case atStart => exact ⟨0, ⟨b, 0, 0, 0⟩, Nat.zero_le _, rfl, RA.out, hz6⟩
      case round =>
        clear RA hz6
        obtain ⟨j, s, hj, rfl, hra, hzr⟩ := hrel
        have RA := Lib.hid hra
        clear hra
        by_cases hlt : j < ops.length
        · obtain ⟨g, o, rfl, hgg, d0, d1, d2, d3, d4⟩ := (HR.out.keep RA.out.2.2.2 (fun _ _ _ q => q.elim)).oop hlt
          have hgood := HG.out ops[j] (List.getElem_mem hlt)
          generalize ops[j] = op at d0 d1 d2 d3 d4 hgood
          obtain ⟨_, ⟨hn1, hn2⟩, _⟩ := hgood
          have a7 := and7 op.kind
          have hk8 : (op.kind % 8).toNat < 8 := by omega
          generalize (op.kind % 8).toNat = kd at a7 hk8
          have RAa := Lib.hid (RA.out.still ((Kept.refl noneS wr).alloc (.cells #[.int .i64 op.kind, .int .i64 op.n, .int .i64 op.num, .string op.text, .slice op.addr op.data.length op.cap] 33)))
          have HBk := Lib.hid (Blk.new wr 33 #[.int .i64 op.kind, .int .i64 op.n, .int .i64 op.num, .string op.text, .slice op.addr op.data.length op.cap])
          have hza : wr.heap.size < (wr.alloc (.cells #[.int .i64 op.kind, .int .i64 op.n, .int .i64 op.num, .string op.text, .slice op.addr op.data.length op.cap] 33)).heap.size := by simp
          have hsl : s.bs.length ≤ 140737488351232 := by rw [RA.out.2.2.1]; omega
          go_upto_block 4 with (fail)
          clear d0 d1 d2 d3 d4
          generalize wr.alloc (.cells #[.int .i64 op.kind, .int .i64 op.n, .int .i64 op.num, .string op.text, .slice op.addr op.data.length op.cap] 33) = wa at RAa HBk hza ⊢
          generalize hbo : wr.heap.size = bo at HBk hza hzr ⊢
          clear hbo RA
          have a1 : wa.cell? ⟨bo, 1, none⟩ = some (.int .i64 op.n) := HBk.out.cell 1
          go_cut [11, 12, 13, 42] from 42 to 142 (fun v11 _ _ i wx => v11 = .bool true ∧ i = .int .i64 j ∧ ∃ s' : RS, ReadAt w wx FR FM r m b s' ∧ B ≤ wx.heap.size)
          case first =>
            rcases (by omega : kd = 0 ∨ kd = 1 ∨ kd = 2 ∨ kd = 3 ∨ kd = 4 ∨ kd = 5 ∨ kd = 6 ∨ kd = 7) with rfl | rfl | rfl | rfl | rfl | rfl | rfl | rfl
            · go_wp2_with fail
              refine (rsOctet wa FR r s RAa.out.1).mono ?_
              rintro e w7 ⟨rfl, h7, k7⟩
              have R7 := Lib.hid h7
              have M7 := Lib.hid (ReadAt.ref ST.out RAa.out k7)
              have K7 := Lib.hid k7
              have z7 := k7.size
              clear h7 k7 a1
              go_wp2_with fail
              refine (rrNum 1 (by decide) w7 FM m s M7.out hsl).mono ?_
              rintro e w8 ⟨rfl, h8, k8⟩
              have z8 := k8.size
              have RB8 := Lib.hid (ReadAt.both (b := b) ST.out RAa.out.2.2.2 K7.out R7.out k8 h8 (by rw [RS.num_bs]; exact RAa.out.2.2.1))
              clear h8 k8
              generalize (s.num 1).2 = v
              have hee : (v == v) = true := by simp
              go_wp2
              go_meet
              case rel => exact ⟨rfl, rfl, _, RB8.out, by omega⟩
            · go_wp2_with fail
              refine (rsShort wa FR r s RAa.out.1).mono ?_
              rintro e w7 ⟨rfl, h7, k7⟩
              have R7 := Lib.hid h7
              have M7 := Lib.hid (ReadAt.ref ST.out RAa.out k7)
              have K7 := Lib.hid k7
              have z7 := k7.size
              clear h7 k7 a1
              go_wp2_with fail
              refine (rrNum 2 (by decide) w7 FM m s M7.out hsl).mono ?_
              rintro e w8 ⟨rfl, h8, k8⟩
              have z8 := k8.size
              have RB8 := Lib.hid (ReadAt.both (b := b) ST.out RAa.out.2.2.2 K7.out R7.out k8 h8 (by rw [RS.num_bs]; exact RAa.out.2.2.1))
              clear h8 k8
              generalize (s.num 2).2 = v
              have hee : (v == v) = true := by simp
              go_wp2
              go_meet
              case rel => exact ⟨rfl, rfl, _, RB8.out, by omega⟩
            · go_wp2_with fail
              refine (rsLong wa FR r s RAa.out.1).mono ?_
              rintro e w7 ⟨rfl, h7, k7⟩
              have R7 := Lib.hid h7
              have M7 := Lib.hid (ReadAt.ref ST.out RAa.out k7)
              have K7 := Lib.hid k7
              have z7 := k7.size
              clear h7 k7 a1
              go_wp2_with fail
              refine (rrNum 4 (by decide) w7 FM m s M7.out hsl).mono ?_
              rintro e w8 ⟨rfl, h8, k8⟩
              have z8 := k8.size
              have RB8 := Lib.hid (ReadAt.both (b := b) ST.out RAa.out.2.2.2 K7.out R7.out k8 h8 (by rw [RS.num_bs]; exact RAa.out.2.2.1))
              clear h8 k8
              generalize (s.num 4).2 = v
              have hee : (v == v) = true := by simp
              go_wp2
              go_meet
              case rel => exact ⟨rfl, rfl, _, RB8.out, by omega⟩
            · go_wp2_with fail
              refine (rsLongLong wa FR r s RAa.out.1).mono ?_
              rintro e w7 ⟨rfl, h7, k7⟩
              have R7 := Lib.hid h7
              have M7 := Lib.hid (ReadAt.ref ST.out RAa.out k7)
              have K7 := Lib.hid k7
              have z7 := k7.size
              clear h7 k7 a1
              go_wp2_with fail
              refine (rrNum 8 (by decide) w7 FM m s M7.out hsl).mono ?_
              rintro e w8 ⟨rfl, h8, k8⟩
              have z8 := k8.size
              have RB8 := Lib.hid (ReadAt.both (b := b) ST.out RAa.out.2.2.2 K7.out R7.out k8 h8 (by rw [RS.num_bs]; exact RAa.out.2.2.1))
              clear h8 k8
              generalize (s.num 8).2 = v
              have hee : (v == v) = true := by simp
              go_wp2
              go_meet
              case rel => exact ⟨rfl, rfl, _, RB8.out, by omega⟩
            · go_wp2_with fail
              refine (rsBit wa FR r s RAa.out.1).mono ?_
              rintro e w7 ⟨rfl, h7, k7⟩
              have R7 := Lib.hid h7
              have M7 := Lib.hid (ReadAt.ref ST.out RAa.out k7)
              have K7 := Lib.hid k7
              have z7 := k7.size
              clear h7 k7 a1
              go_wp2_with fail
              refine (rrBit w7 FM m s M7.out hsl).mono ?_
              rintro e w8 ⟨rfl, h8, k8⟩
              have z8 := k8.size
              have RB8 := Lib.hid (ReadAt.both (b := b) ST.out RAa.out.2.2.2 K7.out R7.out k8 h8 (by rw [RS.bit_bs]; exact RAa.out.2.2.1))
              clear h8 k8
              generalize s.bit.2 = v
              have hee : (v == v) = true := by simp
              go_wp2
              go_meet
              case rel => exact ⟨rfl, rfl, _, RB8.out, by omega⟩
            · go_wp2_with fail
              refine (rsShortStr wa FR r s RAa.out.1).mono ?_
              rintro e w7 ⟨rfl, h7, k7⟩
              have R7 := Lib.hid h7
              have M7 := Lib.hid (ReadAt.ref ST.out RAa.out k7)
              have K7 := Lib.hid k7
              have z7 := k7.size
              clear h7 k7 a1
              go_wp2_with fail
              refine (rrText 1 (by decide) w7 FM m s M7.out hsl).mono ?_
              rintro e w8 ⟨rfl, h8, k8⟩
              have z8 := k8.size
              have RB8 := Lib.hid (ReadAt.both (b := b) ST.out RAa.out.2.2.2 K7.out R7.out k8 h8 (by rw [RS.text_bs]; exact RAa.out.2.2.1))
              clear h8 k8
              generalize (⟨(s.text 1).2.toArray⟩ : ByteArray) = v
              have hee : (v.toList == v.toList) = true := by simp
              go_wp2
              go_meet
              case rel => exact ⟨rfl, rfl, _, RB8.out, by omega⟩
            · go_wp2_with fail
              refine (rsLongStr wa FR r s RAa.out.1).mono ?_
              rintro e w7 ⟨rfl, h7, k7⟩
              have R7 := Lib.hid h7
              have M7 := Lib.hid (ReadAt.ref ST.out RAa.out k7)
              have K7 := Lib.hid k7
              have z7 := k7.size
              clear h7 k7 a1
              go_wp2_with fail
              refine (rrText 4 (by decide) w7 FM m s M7.out hsl).mono ?_
              rintro e w8 ⟨rfl, h8, k8⟩
              have z8 := k8.size
              have RB8 := Lib.hid (ReadAt.both (b := b) ST.out RAa.out.2.2.2 K7.out R7.out k8 h8 (by rw [RS.text_bs]; exact RAa.out.2.2.1))
              clear h8 k8
              generalize (⟨(s.text 4).2.toArray⟩ : ByteArray) = v
              have hee : (v.toList == v.toList) = true := by simp
              go_wp2
              go_meet
              case rel => exact ⟨rfl, rfl, _, RB8.out, by omega⟩
            · go_wp2_with fail
              refine (rsRaw op.n wa FR r s RAa.out.1 (Nat.le_trans (RS.raw_le s op.n) (by omega))).mono ?_
              rintro e w7 ⟨A7, c7, rfl, o7, h7, k7⟩
              have R7 := Lib.hid h7
              have M7 := Lib.hid (ReadAt.ref ST.out RAa.out k7)
              have K7 := Lib.hid k7
              have z7 := k7.size
              have O7 := Lib.hid (Own.mono o7 (G := fun k => wa.heap.size ≤ k ∧ k < w7.heap.size) (fun k a q => ⟨q, a⟩))
              have hrb : r < B := ST.out.r2
              have hmb : m < B := ST.out.m2
              have b1 : w7.cell? ⟨bo, 1, none⟩ = some (.int .i64 op.n) := (HBk.out.keep k7 (fun q => by omega)).cell 1
              clear h7 k7 a1 o7
              generalize hL : (s.raw op.n).2 = L at O7
              have HL := Lib.hid hL
              clear hL
              go_wp2_with fail
              refine (rrRaw op.n hn1 hn2 w7 FM m s M7.out hsl).mono ?_
              rintro e w8 ⟨A8, c8, rfl, o8, h8, k8⟩
              have z8 := k8.size
              rw [HL.out] at o8
              rw [HL.out]
              have RB8 := Lib.hid (ReadAt.both (b := b) ST.out RAa.out.2.2.2 K7.out R7.out k8 h8 (by rw [RS.raw_bs]; exact RAa.out.2.2.1))
              have O8 := Lib.hid (Own.keep0 O7.out k8 (fun k a q t => by have := O7.out.2 k q; omega))
              have P8 := Lib.hid (OB.rb o8).2
              clear h8 k8 b1 o8
              have hLl : L.length ≤ 140737488351232 := by rw [← HL.out]; exact Nat.le_trans (RS.raw_le s op.n) hsl
              go_wp2_with fail
              refine (same_any A7 A8 c7 c8 L.length L.length L L _ _ w8 (OB.rb O8.out).2 P8.out rfl rfl).mono ?_
              rintro e w9 ⟨rfl, rfl⟩
              have e2 : (L == L) = true := by simp
              rw [e2]
              clear e2 P8
              go_wp2
              go_loopw [61] (fun i wx => ∃ (q : Nat) (bs : List UInt8), q ≤ L.length ∧ i = .int .i64 q ∧ bs.length = L.length ∧ OB wx (fun k => wa.heap.size ≤ k ∧ k < w7.heap.size) (.slice A7 L.length c7) bs ∧ Kept (fun k => wa.heap.size ≤ k ∧ k < w7.heap.size) w8 wx) (fun i _ => L.length - (intOf i).toNat)
              case atStart => exact ⟨0, L, Nat.zero_le _, rfl, rfl, O8.out, Kept.refl _ _⟩
              case round =>
                obtain ⟨q, bs, hq, rfl, hbl, hob, hk⟩ := hrel
                have OBr := Lib.hid hob
                have KR := Lib.hid hk
                have HBl := Lib.hid hbl
                clear hob hk hbl
                by_cases hlt2 : q < L.length
                · obtain ⟨g, q', hA7, hgF, d0, d1, bs', hbs', hob'⟩ := OB.fill_cells OBr.out HBl.out hlt2 0xdd
                  subst hA7
                  have OB' := Lib.hid hob'
                  have HBs' := Lib.hid hbs'
                  have HGF := Lib.hid hgF
                  clear hob' hbs' hgF
                  go_wp2
                  go_roundw
                  case rel => exact ⟨q + 1, bs', by omega, by go_num, HBs'.out, OB'.out, KR.out.setCell (p := ⟨g, q, none⟩) (fun _ => HGF.out) _⟩
                  case measure => simp [intOf]; omega
                · have RB9 : Hid (ReadAt w wr FR FM r m b (s.raw op.n).1) := Lib.hid ⟨RB8.out.1.keep KR.out (by rintro k _ (a | a) t; (have := ST.out.fr k a; omega); omega), RB8.out.2.1.keep KR.out (by rintro k _ (a | a) t; (have := ST.out.fm k a; have := RAa.out.2.2.2.size; omega); omega), RB8.out.2.2.1, RB8.out.2.2.2.trans2 KR.out (fun k a t => absurd a (by have := RAa.out.2.2.2.size; omega))⟩
                  have hz9 := KR.out.size
                  go_wp2
                  go_meet
                  case rel => exact ⟨rfl, rfl, _, RB9.out, by omega⟩
          case rest =>
          obtain ⟨rfl, rfl, s', hra', hzc⟩ := hcut
          obtain ⟨w7, rfl⟩ : ∃ w7 : World, w7 = wc := ⟨_, rfl⟩
          have RA7 := Lib.hid hra'
          clear hra' RAa HBk a1
          have HBm : Hid (∃ A c, Blk w7 m 30 #[.slice A s'.bs.length c, .int .i64 (s'.pos : Int), .int .i64 (s'.row : Int), .int .i64 s'.code]) := Lib.hid (by obtain ⟨⟨A, c, h, _⟩, _⟩ := RA7.out.2.1; exact ⟨A, c, h⟩)
          obtain ⟨Am, cm, hbm2⟩ := HBm.out
          have BM := Lib.hid hbm2
          have e3 : w7.cell? ⟨m, 3, none⟩ = some (.int .i64 s'.code) := hbm2.cell 3
          clear hbm2 HBm
          have n1 : ((s'.left.length : Int) != (s'.left.length : Int)) = false := by simp
          have n2 : (s'.code != s'.code) = false := by simp
          have n3 : (s'.fin != s'.fin) = false := by simp
          go_upto_region 38 with (fail)
          go_region_held3 (fun W => W.cell? ⟨m, 3, none⟩ = some (.int .i64 s'.code))
            (first | exact e3 | exact e4 | exact e5)
            (first
              | (go_at_call 23; refine (rsLeft w7.drew FR r s' RA7.out.1).mono ?_; rintro e w8 ⟨rfl, rfl⟩)
              | (go_at_call 24; refine (rrLeft w7.drew FM m s' RA7.out.2.1).mono ?_; rintro e w8 ⟨rfl, k0⟩; have k8 : Kept noneS w7 w8 := ⟨k0.os, k0.tape, k0.output, k0.size, k0.block⟩; clear k0; have e4 : w8.cell? ⟨m, 3, none⟩ = some (.int .i64 s'.code) := (BM.out.keep k8 (fun q => q)).cell 3; have RA8 := Lib.hid (RA7.out.still k8); have K8 := Lib.hid k8; clear k8)
              | (go_at_call 25; refine (rsErr w8 FR r s' RA8.out.1).mono ?_; rintro e w9 ⟨rfl, rfl⟩)
              | (go_at_call 26; refine (rsEnd w8 FR r s' RA8.out.1).mono ?_; rintro e w9 ⟨rfl, rfl⟩)
              | (go_at_call 27; refine (rrEnd w8 FM m s' RA8.out.2.1).mono ?_; rintro e w9 ⟨rfl, k9⟩; have e5 : w9.cell? ⟨m, 3, none⟩ = some (.int .i64 s'.code) := (BM.out.keep (K8.out.trans k9) (fun q => q)).cell 3; have RA9 := Lib.hid (RA8.out.still k9); have K9 := Lib.hid k9; clear k9))
          have hz8 := K8.out.size
          have hz9 := K9.out.size
          clear e3 e4 e5
          go_wp2
          go_roundw
          case rel => exact ⟨j + 1, s', by omega, by go_num, RA9.out, by omega⟩
          case measure => simp [intOf]; omega
        · go_wp2
          go_ret
          exact ⟨rfl, RA.out.2.2.2⟩

end Go.Proofs.Ytepligggofbegaa
