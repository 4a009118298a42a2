/-
  One call of a script on two Writers.
-/
import Derived.Test.YtepligggofbegaaOctL
import Derived.Test.YtepligggofbegaaRefW2
import Derived.Test.YtepligggofbegaaOctOps
import Derived.Deep.RegionHeld3
namespace Go.Proofs.Ytepligggofbegaa
open Go.RowKit

theorem nat_mask3w (n : Nat) : n &&& 7 = n % 8 := Nat.and_two_pow_sub_one_eq_mod n 3
theorem and7w (x : Int) : bits .and .i64 x 7 = ((x % 8).toNat : Int) := by
  have h1 : (BitVec.ofInt 64 x).toNat % 8 = (x % 8).toNat := by
    rw [BitVec.toNat_ofInt]
    omega
  show IntKind.i64.wrap ((BitVec.ofInt 64 x &&& BitVec.ofInt 64 7).toNat : Int) = _
  rw [BitVec.toNat_and, show (BitVec.ofInt 64 7).toNat = 7 from rfl, nat_mask3w, h1, IntKind.wrap_i64]
  omega

/-- What a call of the script makes of a Writer. -/
def WS.step (s : WS) (op : OOp) : WS :=
  match (op.kind % 8).toNat with
  | 0 => s.num 1 op.num
  | 1 => s.num 2 op.num
  | 2 => s.num 4 op.num
  | 3 => s.num 8 op.num
  | 4 => s.bit (bits .and .i64 op.num 1 == 1)
  | 5 => s.short op.text.data.toList
  | 6 => s.long op.text.data.toList
  | _ => s.raw op.data

theorem WS.step_len (s : WS) (op : OOp) : (s.step op).bs.length ≤ s.bs.length + 2 * op.bulk ∧ (s.step op).row ≤ s.row + 1 := by
  have ht := bytes_size op.text
  unfold WS.step OOp.bulk
  split
  · simp only [WS.num, WS.raw, List.length_append, be_length]; omega
  · simp only [WS.num, WS.raw, List.length_append, be_length]; omega
  · simp only [WS.num, WS.raw, List.length_append, be_length]; omega
  · simp only [WS.num, WS.raw, List.length_append, be_length]; omega
  · unfold WS.bit
    split
    · simp; omega
    · simp; omega
  · unfold WS.short
    split
    · simp
    · simp [WS.num, WS.raw, be_length]; omega
  · simp only [WS.long, WS.num, WS.raw, List.length_append, be_length]; omega
  · simp only [WS.raw, List.length_append]; omega

/-- Two Writers hold the same; neither has a block of Z. -/
def WPlay (w0 : World) (Z : Nat → Prop) (W : World) (p m : Nat) (s : WS) : Prop :=
  ∃ FB FM : Nat → Prop, (∀ k, FB k → FM k → False) ∧ (∀ k, FB k → w0.heap.size ≤ k ∧ k < W.heap.size ∧ ¬ Z k) ∧ (∀ k, FM k → w0.heap.size ≤ k ∧ k < W.heap.size ∧ ¬ Z k) ∧ WSAt W FB p s ∧ RWAt W FM m s ∧ Kept noneS w0 W

theorem WPlay.away {w0 W W' : World} {Z Z' : Nat → Prop} {p m : Nat} {s : WS} {S : Nat → Prop} (h : WPlay w0 Z W p m s) (hk : Kept S W W') (hS : ∀ k, S k → W.heap.size ≤ k ∨ (Z k ∧ w0.heap.size ≤ k)) (hZ : ∀ k, Z' k → Z k ∨ W.heap.size ≤ k) : WPlay w0 Z' W' p m s := by
  obtain ⟨FB, FM, h1, h2, h3, h4, h5, h6⟩ := h
  have hz := hk.size
  have hz6 := h6.size
  refine ⟨FB, FM, h1, fun k q => ?_, fun k q => ?_, h4.keep hk (fun k a c b => ?_), h5.keep hk (fun k a c b => ?_), h6.trans2 hk (fun k a b => ?_)⟩
  · obtain ⟨a, b, c⟩ := h2 k q
    refine ⟨a, by omega, fun z => ?_⟩
    rcases hZ k z with z | z
    · exact c z
    · omega
  · obtain ⟨a, b, c⟩ := h3 k q
    refine ⟨a, by omega, fun z => ?_⟩
    rcases hZ k z with z | z
    · exact c z
    · omega
  · rcases hS k b with q | q
    · omega
    · exact (h2 k c).2.2 q.1
  · rcases hS k b with q | q
    · omega
    · exact (h3 k c).2.2 q.1
  · rcases hS k b with q | q
    · omega
    · omega
theorem WPlay.still {w0 W W' : World} {Z : Nat → Prop} {p m : Nat} {s : WS} (h : WPlay w0 Z W p m s) (hk : Kept noneS W W') : WPlay w0 Z W' p m s := h.away hk (fun _ q => q.elim) fun _ q => .inl q

theorem WPlay.both {w0 W W1 W2 : World} {Z : Nat → Prop} {p m : Nat} {s' : WS} {FB FM : Nat → Prop} (h1 : ∀ k, FB k → FM k → False) (h2 : ∀ k, FB k → w0.heap.size ≤ k ∧ k < W.heap.size ∧ ¬ Z k) (h3 : ∀ k, FM k → w0.heap.size ≤ k ∧ k < W.heap.size ∧ ¬ Z k) (h6 : Kept noneS w0 W) (hZ : ∀ k, Z k → k < W.heap.size)
    (hb : WSAt W1 (fun k => FB k ∨ W.heap.size ≤ k) p s') (kb : Kept (fun k => FB k ∨ W.heap.size ≤ k) W W1) (hm : RWAt W2 (fun k => FM k ∨ W1.heap.size ≤ k) m s') (km : Kept (fun k => FM k ∨ W1.heap.size ≤ k) W1 W2) : WPlay w0 Z W2 p m s' ∧ Kept (fun k => ¬ Z k) W W2 := by
  have z0 := h6.size
  have z1 := kb.size
  have z2 := km.size
  refine ⟨⟨fun k => (FB k ∨ W.heap.size ≤ k) ∧ k < W1.heap.size, fun k => (FM k ∨ W1.heap.size ≤ k) ∧ k < W2.heap.size, ?_, ?_, ?_, (hb.mono fun k a b => ⟨b, a⟩).keep km ?_, hm.mono fun k a b => ⟨b, a⟩, ?_⟩, ?_⟩
  · rintro k ⟨a | a, a1⟩ ⟨b | b, b1⟩
    · exact h1 k a b
    · have := h2 k a; omega
    · have := h3 k b; omega
    · omega
  · rintro k ⟨a | a, a1⟩
    · have := h2 k a
      exact ⟨by omega, by omega, this.2.2⟩
    · exact ⟨by omega, by omega, fun z => by have := hZ k z; omega⟩
  · rintro k ⟨a | a, a1⟩
    · have := h3 k a
      exact ⟨by omega, by omega, this.2.2⟩
    · exact ⟨by omega, by omega, fun z => by have := hZ k z; omega⟩
  · rintro k a ⟨b | b, b1⟩ (c | c)
    · exact h1 k b c
    · omega
    · have := h3 k c; omega
    · omega
  · refine (h6.trans2 kb (fun k a b => ?_)).trans2 km (fun k a b => ?_)
    · rcases b with b | b
      · have := h2 k b; omega
      · omega
    · rcases b with b | b
      · have := h3 k b; omega
      · omega
  · refine (kb.mono (S' := fun k => ¬ Z k) (fun k a b => ?_)).trans2 km (fun k a b => ?_)
    · rcases b with b | b
      · exact (h2 k b).2.2
      · omega
    · rcases b with b | b
      · exact (h3 k b).2.2
      · omega

def WritePost (w0 : World) (Z : Nat → Prop) (w : World) (p m : Nat) (s' : WS) (e : Ending) (w' : World) : Prop := e = .returned (.bool true) ∧ WPlay w0 Z w' p m s' ∧ Kept (fun k => ¬ Z k) w w'

theorem OB.fill_cells {w : World} {F : Nat → Prop} {A : Option Addr} {n cap j : Nat} {bs : List UInt8} (h : OB w F (.slice A n cap) bs) (hl : bs.length = n) (hj : j < n) (b : UInt8) :
    ∃ g q, A = some ⟨g, 0, none⟩ ∧ F g ∧ w.cell? ⟨g, j, none⟩ = some (.int .u8 q) ∧ w.frozen? ⟨g, j, none⟩ = false ∧ ∃ bs', bs'.length = n ∧ OB (w.setCell ⟨g, j, none⟩ (.int .u8 (b.toNat : Int))) F (.slice A n cap) bs' := by
  obtain ⟨g, h1, h2, h3, h4, h5⟩ := OB.store h (j := j) (by omega) b
  exact ⟨g, _, h1, h2, h3, h4, bs.set j b, by rw [List.length_set]; exact hl, h5⟩

set_option maxHeartbeats 1600000 in
set_option maxRecDepth 100000 in
theorem write_num1 (op : OOp) (w0 w : World) (p m : Nat) (s : WS) (Z : Nat → Prop) (hZ : ∀ k, Z k → k < w.heap.size) (h : WPlay w0 Z w p m s) (hgood : op.good w0) (hsl : s.bs.length + op.bulk ≤ 100000000) (hrow : s.row ≤ 100000000) (hkd : (op.kind % 8).toNat = 0) (ht : s.step op = s.num 1 op.num) :
    Calls Try.prog 29 #[.pointer (some ⟨p, 0, none⟩), .pointer (some ⟨m, 0, none⟩), .agg #[.int .i64 op.kind, .int .i64 op.n, .int .i64 op.num, .string op.text, .slice op.addr op.data.length op.cap]] w (WritePost w0 Z w p m (s.step op)) := by
  obtain ⟨FB, FM, h1, h2, h3, h4, h5, h6⟩ := h
  obtain ⟨_, _, ⟨hu1, hu2⟩, htx, hrb, hdl, hdc, hdn⟩ := hgood
  have P1 := Lib.hid h1
  have P2 := Lib.hid h2
  have P3 := Lib.hid h3
  have ka := (Kept.refl noneS w).alloc (.cells #[.int .i64 op.kind, .int .i64 op.n, .int .i64 op.num, .string op.text, .slice op.addr op.data.length op.cap] 33)
  have Q4 := Lib.hid (h4.still ka)
  have Q5 := Lib.hid (h5.still ka)
  have Q6 := Lib.hid (h6.trans ka)
  have HBk := Lib.hid (Blk.new w 33 #[.int .i64 op.kind, .int .i64 op.n, .int .i64 op.num, .string op.text, .slice op.addr op.data.length op.cap])
  have KA := Lib.hid ka
  have HZ := Lib.hid hZ
  have RD := Lib.hid (hrb.still (h6.trans ka))
  have HDn := Lib.hid hdn
  have a7 := and7w op.kind
  rw [hkd] at a7
  have HT := Lib.hid ht
  clear h1 h2 h3 h4 h5 h6 ka hZ hrb hdn ht hkd
  go_enter Try.func29, Try.ntmps29
  go_upto_region 13 with (fail)
  have hz : w.heap.size < (w.alloc (.cells #[.int .i64 op.kind, .int .i64 op.n, .int .i64 op.num, .string op.text, .slice op.addr op.data.length op.cap] 33)).heap.size := by simp
  generalize w.alloc (.cells #[.int .i64 op.kind, .int .i64 op.n, .int .i64 op.num, .string op.text, .slice op.addr op.data.length op.cap] 33) = wa at Q4 Q5 Q6 HBk hz KA RD ⊢
  generalize w.heap.size = b0 at P2 P3 HBk hz HZ ⊢
  have a2 : wa.cell? ⟨b0, 2, none⟩ = some (.int .i64 op.num) := HBk.out.cell 2
  clear a7
  go_wp2_with fail
  refine (wsOctet op.num wa (fun k => FB k ∨ wa.heap.size ≤ k) p s (Q4.out.mono fun _ _ h => .inl h) (fun i hi => .inr hi) (by omega) hu1 hu2).mono ?_
  rintro e w1 ⟨rfl, hb1, kb1⟩
  have bk := HBk.out.keep kb1 (by rintro (q | q); (have := P2.out _ q; omega); omega)
  have b2 : w1.cell? ⟨b0, 2, none⟩ = some (.int .i64 op.num) := bk.cell 2
  have HB1 := Lib.hid hb1
  have KB1 := Lib.hid kb1
  have hz1 := kb1.size
  clear bk hb1 kb1 a2
  go_wp2_with fail
  refine (rwNum 1 (by decide) op.num w1 (fun k => FM k ∨ w1.heap.size ≤ k) m s ((Q5.out.keep KB1.out (by rintro k _ x (q | q); (exact P1.out k q x); (have := P3.out k x; omega))).mono fun _ _ h => .inl h) (fun i hi => .inr hi) (by omega) hu1 hu2).mono ?_
  rintro e w2 ⟨rfl, hm2, km2⟩
  have HM2 := Lib.hid hm2
  have KM2 := Lib.hid km2
  have hz2 := km2.size
  clear hm2 km2 b2
  go_wp2
  go_ret
  obtain ⟨r1, r2⟩ := WPlay.both (Z := Z) P1.out (fun k q => ⟨(P2.out k q).1, by have := P2.out k q; omega, (P2.out k q).2.2⟩) (fun k q => ⟨(P3.out k q).1, by have := P3.out k q; omega, (P3.out k q).2.2⟩) Q6.out (fun k z => by have := HZ.out k z; omega) HB1.out KB1.out HM2.out KM2.out
  rw [HT.out]
  exact ⟨rfl, r1, (KA.out.mono (fun _ _ q => q.elim)).trans r2⟩

set_option maxHeartbeats 1600000 in
set_option maxRecDepth 100000 in
theorem write_num2 (op : OOp) (w0 w : World) (p m : Nat) (s : WS) (Z : Nat → Prop) (hZ : ∀ k, Z k → k < w.heap.size) (h : WPlay w0 Z w p m s) (hgood : op.good w0) (hsl : s.bs.length + op.bulk ≤ 100000000) (hrow : s.row ≤ 100000000) (hkd : (op.kind % 8).toNat = 1) (ht : s.step op = s.num 2 op.num) :
    Calls Try.prog 29 #[.pointer (some ⟨p, 0, none⟩), .pointer (some ⟨m, 0, none⟩), .agg #[.int .i64 op.kind, .int .i64 op.n, .int .i64 op.num, .string op.text, .slice op.addr op.data.length op.cap]] w (WritePost w0 Z w p m (s.step op)) := by
  obtain ⟨FB, FM, h1, h2, h3, h4, h5, h6⟩ := h
  obtain ⟨_, _, ⟨hu1, hu2⟩, htx, hrb, hdl, hdc, hdn⟩ := hgood
  have P1 := Lib.hid h1
  have P2 := Lib.hid h2
  have P3 := Lib.hid h3
  have ka := (Kept.refl noneS w).alloc (.cells #[.int .i64 op.kind, .int .i64 op.n, .int .i64 op.num, .string op.text, .slice op.addr op.data.length op.cap] 33)
  have Q4 := Lib.hid (h4.still ka)
  have Q5 := Lib.hid (h5.still ka)
  have Q6 := Lib.hid (h6.trans ka)
  have HBk := Lib.hid (Blk.new w 33 #[.int .i64 op.kind, .int .i64 op.n, .int .i64 op.num, .string op.text, .slice op.addr op.data.length op.cap])
  have KA := Lib.hid ka
  have HZ := Lib.hid hZ
  have RD := Lib.hid (hrb.still (h6.trans ka))
  have HDn := Lib.hid hdn
  have a7 := and7w op.kind
  rw [hkd] at a7
  have HT := Lib.hid ht
  clear h1 h2 h3 h4 h5 h6 ka hZ hrb hdn ht hkd
  go_enter Try.func29, Try.ntmps29
  go_upto_region 16 with (fail)
  have hz : w.heap.size < (w.alloc (.cells #[.int .i64 op.kind, .int .i64 op.n, .int .i64 op.num, .string op.text, .slice op.addr op.data.length op.cap] 33)).heap.size := by simp
  generalize w.alloc (.cells #[.int .i64 op.kind, .int .i64 op.n, .int .i64 op.num, .string op.text, .slice op.addr op.data.length op.cap] 33) = wa at Q4 Q5 Q6 HBk hz KA RD ⊢
  generalize w.heap.size = b0 at P2 P3 HBk hz HZ ⊢
  have a2 : wa.cell? ⟨b0, 2, none⟩ = some (.int .i64 op.num) := HBk.out.cell 2
  clear a7
  go_wp2_with fail
  refine (wsShort op.num wa (fun k => FB k ∨ wa.heap.size ≤ k) p s (Q4.out.mono fun _ _ h => .inl h) (fun i hi => .inr hi) (by omega) hu1 hu2).mono ?_
  rintro e w1 ⟨rfl, hb1, kb1⟩
  have bk := HBk.out.keep kb1 (by rintro (q | q); (have := P2.out _ q; omega); omega)
  have b2 : w1.cell? ⟨b0, 2, none⟩ = some (.int .i64 op.num) := bk.cell 2
  have HB1 := Lib.hid hb1
  have KB1 := Lib.hid kb1
  have hz1 := kb1.size
  clear bk hb1 kb1 a2
  go_wp2_with fail
  refine (rwNum 2 (by decide) op.num w1 (fun k => FM k ∨ w1.heap.size ≤ k) m s ((Q5.out.keep KB1.out (by rintro k _ x (q | q); (exact P1.out k q x); (have := P3.out k x; omega))).mono fun _ _ h => .inl h) (fun i hi => .inr hi) (by omega) hu1 hu2).mono ?_
  rintro e w2 ⟨rfl, hm2, km2⟩
  have HM2 := Lib.hid hm2
  have KM2 := Lib.hid km2
  have hz2 := km2.size
  clear hm2 km2 b2
  go_wp2
  go_ret
  obtain ⟨r1, r2⟩ := WPlay.both (Z := Z) P1.out (fun k q => ⟨(P2.out k q).1, by have := P2.out k q; omega, (P2.out k q).2.2⟩) (fun k q => ⟨(P3.out k q).1, by have := P3.out k q; omega, (P3.out k q).2.2⟩) Q6.out (fun k z => by have := HZ.out k z; omega) HB1.out KB1.out HM2.out KM2.out
  rw [HT.out]
  exact ⟨rfl, r1, (KA.out.mono (fun _ _ q => q.elim)).trans r2⟩

set_option maxHeartbeats 1600000 in
set_option maxRecDepth 100000 in
theorem write_num4 (op : OOp) (w0 w : World) (p m : Nat) (s : WS) (Z : Nat → Prop) (hZ : ∀ k, Z k → k < w.heap.size) (h : WPlay w0 Z w p m s) (hgood : op.good w0) (hsl : s.bs.length + op.bulk ≤ 100000000) (hrow : s.row ≤ 100000000) (hkd : (op.kind % 8).toNat = 2) (ht : s.step op = s.num 4 op.num) :
    Calls Try.prog 29 #[.pointer (some ⟨p, 0, none⟩), .pointer (some ⟨m, 0, none⟩), .agg #[.int .i64 op.kind, .int .i64 op.n, .int .i64 op.num, .string op.text, .slice op.addr op.data.length op.cap]] w (WritePost w0 Z w p m (s.step op)) := by
  obtain ⟨FB, FM, h1, h2, h3, h4, h5, h6⟩ := h
  obtain ⟨_, _, ⟨hu1, hu2⟩, htx, hrb, hdl, hdc, hdn⟩ := hgood
  have P1 := Lib.hid h1
  have P2 := Lib.hid h2
  have P3 := Lib.hid h3
  have ka := (Kept.refl noneS w).alloc (.cells #[.int .i64 op.kind, .int .i64 op.n, .int .i64 op.num, .string op.text, .slice op.addr op.data.length op.cap] 33)
  have Q4 := Lib.hid (h4.still ka)
  have Q5 := Lib.hid (h5.still ka)
  have Q6 := Lib.hid (h6.trans ka)
  have HBk := Lib.hid (Blk.new w 33 #[.int .i64 op.kind, .int .i64 op.n, .int .i64 op.num, .string op.text, .slice op.addr op.data.length op.cap])
  have KA := Lib.hid ka
  have HZ := Lib.hid hZ
  have RD := Lib.hid (hrb.still (h6.trans ka))
  have HDn := Lib.hid hdn
  have a7 := and7w op.kind
  rw [hkd] at a7
  have HT := Lib.hid ht
  clear h1 h2 h3 h4 h5 h6 ka hZ hrb hdn ht hkd
  go_enter Try.func29, Try.ntmps29
  go_upto_region 19 with (fail)
  have hz : w.heap.size < (w.alloc (.cells #[.int .i64 op.kind, .int .i64 op.n, .int .i64 op.num, .string op.text, .slice op.addr op.data.length op.cap] 33)).heap.size := by simp
  generalize w.alloc (.cells #[.int .i64 op.kind, .int .i64 op.n, .int .i64 op.num, .string op.text, .slice op.addr op.data.length op.cap] 33) = wa at Q4 Q5 Q6 HBk hz KA RD ⊢
  generalize w.heap.size = b0 at P2 P3 HBk hz HZ ⊢
  have a2 : wa.cell? ⟨b0, 2, none⟩ = some (.int .i64 op.num) := HBk.out.cell 2
  clear a7
  go_wp2_with fail
  refine (wsLong op.num wa (fun k => FB k ∨ wa.heap.size ≤ k) p s (Q4.out.mono fun _ _ h => .inl h) (fun i hi => .inr hi) (by omega) hu1 hu2).mono ?_
  rintro e w1 ⟨rfl, hb1, kb1⟩
  have bk := HBk.out.keep kb1 (by rintro (q | q); (have := P2.out _ q; omega); omega)
  have b2 : w1.cell? ⟨b0, 2, none⟩ = some (.int .i64 op.num) := bk.cell 2
  have HB1 := Lib.hid hb1
  have KB1 := Lib.hid kb1
  have hz1 := kb1.size
  clear bk hb1 kb1 a2
  go_wp2_with fail
  refine (rwNum 4 (by decide) op.num w1 (fun k => FM k ∨ w1.heap.size ≤ k) m s ((Q5.out.keep KB1.out (by rintro k _ x (q | q); (exact P1.out k q x); (have := P3.out k x; omega))).mono fun _ _ h => .inl h) (fun i hi => .inr hi) (by omega) hu1 hu2).mono ?_
  rintro e w2 ⟨rfl, hm2, km2⟩
  have HM2 := Lib.hid hm2
  have KM2 := Lib.hid km2
  have hz2 := km2.size
  clear hm2 km2 b2
  go_wp2
  go_ret
  obtain ⟨r1, r2⟩ := WPlay.both (Z := Z) P1.out (fun k q => ⟨(P2.out k q).1, by have := P2.out k q; omega, (P2.out k q).2.2⟩) (fun k q => ⟨(P3.out k q).1, by have := P3.out k q; omega, (P3.out k q).2.2⟩) Q6.out (fun k z => by have := HZ.out k z; omega) HB1.out KB1.out HM2.out KM2.out
  rw [HT.out]
  exact ⟨rfl, r1, (KA.out.mono (fun _ _ q => q.elim)).trans r2⟩

set_option maxHeartbeats 1600000 in
set_option maxRecDepth 100000 in
theorem write_num8 (op : OOp) (w0 w : World) (p m : Nat) (s : WS) (Z : Nat → Prop) (hZ : ∀ k, Z k → k < w.heap.size) (h : WPlay w0 Z w p m s) (hgood : op.good w0) (hsl : s.bs.length + op.bulk ≤ 100000000) (hrow : s.row ≤ 100000000) (hkd : (op.kind % 8).toNat = 3) (ht : s.step op = s.num 8 op.num) :
    Calls Try.prog 29 #[.pointer (some ⟨p, 0, none⟩), .pointer (some ⟨m, 0, none⟩), .agg #[.int .i64 op.kind, .int .i64 op.n, .int .i64 op.num, .string op.text, .slice op.addr op.data.length op.cap]] w (WritePost w0 Z w p m (s.step op)) := by
  obtain ⟨FB, FM, h1, h2, h3, h4, h5, h6⟩ := h
  obtain ⟨_, _, ⟨hu1, hu2⟩, htx, hrb, hdl, hdc, hdn⟩ := hgood
  have P1 := Lib.hid h1
  have P2 := Lib.hid h2
  have P3 := Lib.hid h3
  have ka := (Kept.refl noneS w).alloc (.cells #[.int .i64 op.kind, .int .i64 op.n, .int .i64 op.num, .string op.text, .slice op.addr op.data.length op.cap] 33)
  have Q4 := Lib.hid (h4.still ka)
  have Q5 := Lib.hid (h5.still ka)
  have Q6 := Lib.hid (h6.trans ka)
  have HBk := Lib.hid (Blk.new w 33 #[.int .i64 op.kind, .int .i64 op.n, .int .i64 op.num, .string op.text, .slice op.addr op.data.length op.cap])
  have KA := Lib.hid ka
  have HZ := Lib.hid hZ
  have RD := Lib.hid (hrb.still (h6.trans ka))
  have HDn := Lib.hid hdn
  have a7 := and7w op.kind
  rw [hkd] at a7
  have HT := Lib.hid ht
  clear h1 h2 h3 h4 h5 h6 ka hZ hrb hdn ht hkd
  go_enter Try.func29, Try.ntmps29
  go_upto_region 22 with (fail)
  have hz : w.heap.size < (w.alloc (.cells #[.int .i64 op.kind, .int .i64 op.n, .int .i64 op.num, .string op.text, .slice op.addr op.data.length op.cap] 33)).heap.size := by simp
  generalize w.alloc (.cells #[.int .i64 op.kind, .int .i64 op.n, .int .i64 op.num, .string op.text, .slice op.addr op.data.length op.cap] 33) = wa at Q4 Q5 Q6 HBk hz KA RD ⊢
  generalize w.heap.size = b0 at P2 P3 HBk hz HZ ⊢
  have a2 : wa.cell? ⟨b0, 2, none⟩ = some (.int .i64 op.num) := HBk.out.cell 2
  clear a7
  go_wp2_with fail
  refine (wsLongLong op.num wa (fun k => FB k ∨ wa.heap.size ≤ k) p s (Q4.out.mono fun _ _ h => .inl h) (fun i hi => .inr hi) (by omega) hu1 hu2).mono ?_
  rintro e w1 ⟨rfl, hb1, kb1⟩
  have bk := HBk.out.keep kb1 (by rintro (q | q); (have := P2.out _ q; omega); omega)
  have b2 : w1.cell? ⟨b0, 2, none⟩ = some (.int .i64 op.num) := bk.cell 2
  have HB1 := Lib.hid hb1
  have KB1 := Lib.hid kb1
  have hz1 := kb1.size
  clear bk hb1 kb1 a2
  go_wp2_with fail
  refine (rwNum 8 (by decide) op.num w1 (fun k => FM k ∨ w1.heap.size ≤ k) m s ((Q5.out.keep KB1.out (by rintro k _ x (q | q); (exact P1.out k q x); (have := P3.out k x; omega))).mono fun _ _ h => .inl h) (fun i hi => .inr hi) (by omega) hu1 hu2).mono ?_
  rintro e w2 ⟨rfl, hm2, km2⟩
  have HM2 := Lib.hid hm2
  have KM2 := Lib.hid km2
  have hz2 := km2.size
  clear hm2 km2 b2
  go_wp2
  go_ret
  obtain ⟨r1, r2⟩ := WPlay.both (Z := Z) P1.out (fun k q => ⟨(P2.out k q).1, by have := P2.out k q; omega, (P2.out k q).2.2⟩) (fun k q => ⟨(P3.out k q).1, by have := P3.out k q; omega, (P3.out k q).2.2⟩) Q6.out (fun k z => by have := HZ.out k z; omega) HB1.out KB1.out HM2.out KM2.out
  rw [HT.out]
  exact ⟨rfl, r1, (KA.out.mono (fun _ _ q => q.elim)).trans r2⟩

set_option maxHeartbeats 1600000 in
set_option maxRecDepth 100000 in
theorem write_bit (op : OOp) (w0 w : World) (p m : Nat) (s : WS) (Z : Nat → Prop) (hZ : ∀ k, Z k → k < w.heap.size) (h : WPlay w0 Z w p m s) (hgood : op.good w0) (hsl : s.bs.length + op.bulk ≤ 100000000) (hrow : s.row ≤ 100000000) (hkd : (op.kind % 8).toNat = 4) (ht : s.step op = s.bit (bits .and .i64 op.num 1 == 1)) :
    Calls Try.prog 29 #[.pointer (some ⟨p, 0, none⟩), .pointer (some ⟨m, 0, none⟩), .agg #[.int .i64 op.kind, .int .i64 op.n, .int .i64 op.num, .string op.text, .slice op.addr op.data.length op.cap]] w (WritePost w0 Z w p m (s.step op)) := by
  obtain ⟨FB, FM, h1, h2, h3, h4, h5, h6⟩ := h
  obtain ⟨_, _, ⟨hu1, hu2⟩, htx, hrb, hdl, hdc, hdn⟩ := hgood
  have P1 := Lib.hid h1
  have P2 := Lib.hid h2
  have P3 := Lib.hid h3
  have ka := (Kept.refl noneS w).alloc (.cells #[.int .i64 op.kind, .int .i64 op.n, .int .i64 op.num, .string op.text, .slice op.addr op.data.length op.cap] 33)
  have Q4 := Lib.hid (h4.still ka)
  have Q5 := Lib.hid (h5.still ka)
  have Q6 := Lib.hid (h6.trans ka)
  have HBk := Lib.hid (Blk.new w 33 #[.int .i64 op.kind, .int .i64 op.n, .int .i64 op.num, .string op.text, .slice op.addr op.data.length op.cap])
  have KA := Lib.hid ka
  have HZ := Lib.hid hZ
  have RD := Lib.hid (hrb.still (h6.trans ka))
  have HDn := Lib.hid hdn
  have a7 := and7w op.kind
  rw [hkd] at a7
  have HT := Lib.hid ht
  clear h1 h2 h3 h4 h5 h6 ka hZ hrb hdn ht hkd
  go_enter Try.func29, Try.ntmps29
  go_upto_region 25 with (fail)
  have hz : w.heap.size < (w.alloc (.cells #[.int .i64 op.kind, .int .i64 op.n, .int .i64 op.num, .string op.text, .slice op.addr op.data.length op.cap] 33)).heap.size := by simp
  generalize w.alloc (.cells #[.int .i64 op.kind, .int .i64 op.n, .int .i64 op.num, .string op.text, .slice op.addr op.data.length op.cap] 33) = wa at Q4 Q5 Q6 HBk hz KA RD ⊢
  generalize w.heap.size = b0 at P2 P3 HBk hz HZ ⊢
  have a2 : wa.cell? ⟨b0, 2, none⟩ = some (.int .i64 op.num) := HBk.out.cell 2
  clear a7
  obtain ⟨y, hy⟩ : ∃ y, bits .and .i64 op.num 1 = y := ⟨_, rfl⟩
  rw [hy] at HT
  go_wp2_with fail
  refine (wsBit (y == 1) wa (fun k => FB k ∨ wa.heap.size ≤ k) p s (Q4.out.mono fun _ _ h => .inl h) (fun i hi => .inr hi) (by omega)).mono ?_
  rintro e w1 ⟨rfl, hb1, kb1⟩
  have bk := HBk.out.keep kb1 (by rintro (q | q); (have := P2.out _ q; omega); omega)
  have b2 : w1.cell? ⟨b0, 2, none⟩ = some (.int .i64 op.num) := bk.cell 2
  have HB1 := Lib.hid hb1
  have KB1 := Lib.hid kb1
  have hz1 := kb1.size
  clear bk hb1 kb1 a2
  go_wp2_with fail
  refine (rwBit (y == 1) w1 (fun k => FM k ∨ w1.heap.size ≤ k) m s ((Q5.out.keep KB1.out (by rintro k _ x (q | q); (exact P1.out k q x); (have := P3.out k x; omega))).mono fun _ _ h => .inl h) (fun i hi => .inr hi) (by omega) (by omega)).mono ?_
  rintro e w2 ⟨rfl, hm2, km2⟩
  have HM2 := Lib.hid hm2
  have KM2 := Lib.hid km2
  have hz2 := km2.size
  clear hm2 km2 b2
  go_wp2
  go_ret
  obtain ⟨r1, r2⟩ := WPlay.both (Z := Z) P1.out (fun k q => ⟨(P2.out k q).1, by have := P2.out k q; omega, (P2.out k q).2.2⟩) (fun k q => ⟨(P3.out k q).1, by have := P3.out k q; omega, (P3.out k q).2.2⟩) Q6.out (fun k z => by have := HZ.out k z; omega) HB1.out KB1.out HM2.out KM2.out
  rw [HT.out]
  exact ⟨rfl, r1, (KA.out.mono (fun _ _ q => q.elim)).trans r2⟩

set_option maxHeartbeats 1600000 in
set_option maxRecDepth 100000 in
theorem write_long (op : OOp) (w0 w : World) (p m : Nat) (s : WS) (Z : Nat → Prop) (hZ : ∀ k, Z k → k < w.heap.size) (h : WPlay w0 Z w p m s) (hgood : op.good w0) (hsl : s.bs.length + op.bulk ≤ 100000000) (hrow : s.row ≤ 100000000) (hkd : (op.kind % 8).toNat = 6) (ht : s.step op = s.long op.text.data.toList) :
    Calls Try.prog 29 #[.pointer (some ⟨p, 0, none⟩), .pointer (some ⟨m, 0, none⟩), .agg #[.int .i64 op.kind, .int .i64 op.n, .int .i64 op.num, .string op.text, .slice op.addr op.data.length op.cap]] w (WritePost w0 Z w p m (s.step op)) := by
  obtain ⟨FB, FM, h1, h2, h3, h4, h5, h6⟩ := h
  obtain ⟨_, _, ⟨hu1, hu2⟩, htx, hrb, hdl, hdc, hdn⟩ := hgood
  have P1 := Lib.hid h1
  have P2 := Lib.hid h2
  have P3 := Lib.hid h3
  have ka := (Kept.refl noneS w).alloc (.cells #[.int .i64 op.kind, .int .i64 op.n, .int .i64 op.num, .string op.text, .slice op.addr op.data.length op.cap] 33)
  have Q4 := Lib.hid (h4.still ka)
  have Q5 := Lib.hid (h5.still ka)
  have Q6 := Lib.hid (h6.trans ka)
  have HBk := Lib.hid (Blk.new w 33 #[.int .i64 op.kind, .int .i64 op.n, .int .i64 op.num, .string op.text, .slice op.addr op.data.length op.cap])
  have KA := Lib.hid ka
  have HZ := Lib.hid hZ
  have RD := Lib.hid (hrb.still (h6.trans ka))
  have HDn := Lib.hid hdn
  have a7 := and7w op.kind
  rw [hkd] at a7
  have HT := Lib.hid ht
  clear h1 h2 h3 h4 h5 h6 ka hZ hrb hdn ht hkd
  go_enter Try.func29, Try.ntmps29
  go_upto_region 30 with (fail)
  have hz : w.heap.size < (w.alloc (.cells #[.int .i64 op.kind, .int .i64 op.n, .int .i64 op.num, .string op.text, .slice op.addr op.data.length op.cap] 33)).heap.size := by simp
  generalize w.alloc (.cells #[.int .i64 op.kind, .int .i64 op.n, .int .i64 op.num, .string op.text, .slice op.addr op.data.length op.cap] 33) = wa at Q4 Q5 Q6 HBk hz KA RD ⊢
  generalize w.heap.size = b0 at P2 P3 HBk hz HZ ⊢
  have a3 : wa.cell? ⟨b0, 3, none⟩ = some (.string op.text) := HBk.out.cell 3
  clear a7
  go_wp2_with fail
  refine (wsLongStr op.text wa (fun k => FB k ∨ wa.heap.size ≤ k) p s (Q4.out.mono fun _ _ h => .inl h) (fun i hi => .inr hi) (by unfold OOp.bulk at hsl; omega)).mono ?_
  rintro e w1 ⟨rfl, hb1, kb1⟩
  have bk := HBk.out.keep kb1 (by rintro (q | q); (have := P2.out _ q; omega); omega)
  have b3 : w1.cell? ⟨b0, 3, none⟩ = some (.string op.text) := bk.cell 3
  have HB1 := Lib.hid hb1
  have KB1 := Lib.hid kb1
  have hz1 := kb1.size
  clear bk hb1 kb1 a3
  go_wp2_with fail
  refine (rwLongStr op.text w1 (fun k => FM k ∨ w1.heap.size ≤ k) m s ((Q5.out.keep KB1.out (by rintro k _ x (q | q); (exact P1.out k q x); (have := P3.out k x; omega))).mono fun _ _ h => .inl h) (fun i hi => .inr hi) (by unfold OOp.bulk at hsl; omega)).mono ?_
  rintro e w2 ⟨rfl, hm2, km2⟩
  have HM2 := Lib.hid hm2
  have KM2 := Lib.hid km2
  have hz2 := km2.size
  clear hm2 km2 b3
  go_wp2
  go_ret
  obtain ⟨r1, r2⟩ := WPlay.both (Z := Z) P1.out (fun k q => ⟨(P2.out k q).1, by have := P2.out k q; omega, (P2.out k q).2.2⟩) (fun k q => ⟨(P3.out k q).1, by have := P3.out k q; omega, (P3.out k q).2.2⟩) Q6.out (fun k z => by have := HZ.out k z; omega) HB1.out KB1.out HM2.out KM2.out
  rw [HT.out]
  exact ⟨rfl, r1, (KA.out.mono (fun _ _ q => q.elim)).trans r2⟩

set_option maxHeartbeats 1600000 in
set_option maxRecDepth 100000 in
theorem write_short (op : OOp) (w0 w : World) (p m : Nat) (s : WS) (Z : Nat → Prop) (hZ : ∀ k, Z k → k < w.heap.size) (h : WPlay w0 Z w p m s) (hgood : op.good w0) (hsl : s.bs.length + op.bulk ≤ 100000000) (hrow : s.row ≤ 100000000) (hkd : (op.kind % 8).toNat = 5) (ht : s.step op = s.short op.text.data.toList) (h255 : op.text.size ≤ 255) :
    Calls Try.prog 29 #[.pointer (some ⟨p, 0, none⟩), .pointer (some ⟨m, 0, none⟩), .agg #[.int .i64 op.kind, .int .i64 op.n, .int .i64 op.num, .string op.text, .slice op.addr op.data.length op.cap]] w (WritePost w0 Z w p m (s.step op)) := by
  obtain ⟨FB, FM, h1, h2, h3, h4, h5, h6⟩ := h
  obtain ⟨_, _, ⟨hu1, hu2⟩, htx, hrb, hdl, hdc, hdn⟩ := hgood
  have P1 := Lib.hid h1
  have P2 := Lib.hid h2
  have P3 := Lib.hid h3
  have ka := (Kept.refl noneS w).alloc (.cells #[.int .i64 op.kind, .int .i64 op.n, .int .i64 op.num, .string op.text, .slice op.addr op.data.length op.cap] 33)
  have Q4 := Lib.hid (h4.still ka)
  have Q5 := Lib.hid (h5.still ka)
  have Q6 := Lib.hid (h6.trans ka)
  have HBk := Lib.hid (Blk.new w 33 #[.int .i64 op.kind, .int .i64 op.n, .int .i64 op.num, .string op.text, .slice op.addr op.data.length op.cap])
  have KA := Lib.hid ka
  have HZ := Lib.hid hZ
  have RD := Lib.hid (hrb.still (h6.trans ka))
  have HDn := Lib.hid hdn
  have a7 := and7w op.kind
  rw [hkd] at a7
  have HT := Lib.hid ht
  clear h1 h2 h3 h4 h5 h6 ka hZ hrb hdn ht hkd
  go_enter Try.func29, Try.ntmps29
  go_upto_region 28 with (fail)
  have hz : w.heap.size < (w.alloc (.cells #[.int .i64 op.kind, .int .i64 op.n, .int .i64 op.num, .string op.text, .slice op.addr op.data.length op.cap] 33)).heap.size := by simp
  generalize w.alloc (.cells #[.int .i64 op.kind, .int .i64 op.n, .int .i64 op.num, .string op.text, .slice op.addr op.data.length op.cap] 33) = wa at Q4 Q5 Q6 HBk hz KA RD ⊢
  generalize w.heap.size = b0 at P2 P3 HBk hz HZ ⊢
  have a3 : wa.cell? ⟨b0, 3, none⟩ = some (.string op.text) := HBk.out.cell 3
  clear a7
  go_region_held3 (fun W => W.cell? ⟨b0, 3, none⟩ = some (.string op.text))
    (first | exact a3 | exact b3 | exact c3)
    (first
      | (go_at_call 36; refine (wsShortStr_ok op.text h255 wa.drew (fun k => FB k ∨ wa.heap.size ≤ k) p s ((Q4.out.mono fun _ _ h => .inl h).still ((Kept.refl noneS wa).drew)) (fun i hi => .inr hi) (by omega)).mono ?_; rintro e w1 ⟨rfl, hb1, kb0⟩; have kb1 : Kept (fun k => FB k ∨ wa.heap.size ≤ k) wa w1 := ⟨kb0.os, kb0.tape, kb0.output, kb0.size, kb0.block⟩; clear kb0; have bk := HBk.out.keep kb1 (by rintro (q | q); (have := P2.out _ q; omega); omega); have b3 : w1.cell? ⟨b0, 3, none⟩ = some (.string op.text) := bk.cell 3; have BK := Lib.hid bk; have HB1 := Lib.hid hb1; have KB1 := Lib.hid kb1; have hz1 := kb1.size; clear bk hb1 kb1)
      | (go_at_call 47; refine (rwShortStr_ok op.text h255 w1 (fun k => FM k ∨ w1.heap.size ≤ k) m s ((Q5.out.keep KB1.out (by rintro k _ x (q | q); (exact P1.out k q x); (have := P3.out k x; omega))).mono fun _ _ h => .inl h) (fun i hi => .inr hi) (by omega)).mono ?_; rintro e w2 ⟨rfl, hm2, km2⟩; have bk := BK.out.keep km2 (by rintro (q | q); (have := P3.out _ q; omega); (have := BK.out.lt; omega)); have c3 : w2.cell? ⟨b0, 3, none⟩ = some (.string op.text) := bk.cell 3; have HM2 := Lib.hid hm2; have KM2 := Lib.hid km2; have hz2 := km2.size; clear bk hm2 km2))
  clear a3 b3 c3
  go_wp2
  go_ret
  obtain ⟨r1, r2⟩ := WPlay.both (Z := Z) P1.out (fun k q => ⟨(P2.out k q).1, by have := P2.out k q; omega, (P2.out k q).2.2⟩) (fun k q => ⟨(P3.out k q).1, by have := P3.out k q; omega, (P3.out k q).2.2⟩) Q6.out (fun k z => by have := HZ.out k z; omega) HB1.out KB1.out HM2.out KM2.out
  rw [HT.out]
  exact ⟨rfl, r1, (KA.out.mono (fun _ _ q => q.elim)).trans r2⟩

set_option maxHeartbeats 1600000 in
set_option maxRecDepth 100000 in
theorem write_toolong (op : OOp) (w0 w : World) (p m : Nat) (s : WS) (Z : Nat → Prop) (hZ : ∀ k, Z k → k < w.heap.size) (h : WPlay w0 Z w p m s) (hgood : op.good w0) (hsl : s.bs.length + op.bulk ≤ 100000000) (hrow : s.row ≤ 100000000) (hkd : (op.kind % 8).toNat = 5) (ht : s.step op = s.short op.text.data.toList) (h255 : 255 < op.text.size) :
    Calls Try.prog 29 #[.pointer (some ⟨p, 0, none⟩), .pointer (some ⟨m, 0, none⟩), .agg #[.int .i64 op.kind, .int .i64 op.n, .int .i64 op.num, .string op.text, .slice op.addr op.data.length op.cap]] w (WritePost w0 Z w p m (s.step op)) := by
  obtain ⟨FB, FM, h1, h2, h3, h4, h5, h6⟩ := h
  obtain ⟨_, _, ⟨hu1, hu2⟩, htx, hrb, hdl, hdc, hdn⟩ := hgood
  have P1 := Lib.hid h1
  have P2 := Lib.hid h2
  have P3 := Lib.hid h3
  have ka := (Kept.refl noneS w).alloc (.cells #[.int .i64 op.kind, .int .i64 op.n, .int .i64 op.num, .string op.text, .slice op.addr op.data.length op.cap] 33)
  have Q4 := Lib.hid (h4.still ka)
  have Q5 := Lib.hid (h5.still ka)
  have Q6 := Lib.hid (h6.trans ka)
  have HBk := Lib.hid (Blk.new w 33 #[.int .i64 op.kind, .int .i64 op.n, .int .i64 op.num, .string op.text, .slice op.addr op.data.length op.cap])
  have KA := Lib.hid ka
  have HZ := Lib.hid hZ
  have RD := Lib.hid (hrb.still (h6.trans ka))
  have HDn := Lib.hid hdn
  have a7 := and7w op.kind
  rw [hkd] at a7
  have HT := Lib.hid ht
  clear h1 h2 h3 h4 h5 h6 ka hZ hrb hdn ht hkd
  go_enter Try.func29, Try.ntmps29
  go_upto_region 28 with (fail)
  have hz : w.heap.size < (w.alloc (.cells #[.int .i64 op.kind, .int .i64 op.n, .int .i64 op.num, .string op.text, .slice op.addr op.data.length op.cap] 33)).heap.size := by simp
  generalize w.alloc (.cells #[.int .i64 op.kind, .int .i64 op.n, .int .i64 op.num, .string op.text, .slice op.addr op.data.length op.cap] 33) = wa at Q4 Q5 Q6 HBk hz KA RD ⊢
  generalize w.heap.size = b0 at P2 P3 HBk hz HZ ⊢
  have a3 : wa.cell? ⟨b0, 3, none⟩ = some (.string op.text) := HBk.out.cell 3
  clear a7
  go_region_held3 (fun W => W.cell? ⟨b0, 3, none⟩ = some (.string op.text))
    (first | exact a3 | exact b3 | exact c3)
    (first
      | (go_at_call 36; refine (wsShortStr_long op.text h255 (by unfold maxLen at htx; omega) wa.drew (fun k => FB k ∨ wa.heap.size ≤ k) p s ((Q4.out.mono fun _ _ h => .inl h).still ((Kept.refl noneS wa).drew))).mono ?_; rintro e w1 ⟨rfl, hb1, kb0⟩; have kb1 : Kept (fun k => FB k ∨ wa.heap.size ≤ k) wa w1 := ⟨kb0.os, kb0.tape, kb0.output, kb0.size, kb0.block⟩; clear kb0; have bk := HBk.out.keep kb1 (by rintro (q | q); (have := P2.out _ q; omega); omega); have b3 : w1.cell? ⟨b0, 3, none⟩ = some (.string op.text) := bk.cell 3; have BK := Lib.hid bk; have HB1 := Lib.hid hb1; have KB1 := Lib.hid kb1; have hz1 := kb1.size; clear bk hb1 kb1)
      | (go_at_call 47; refine (rwShortStr_long op.text h255 (by unfold maxLen at htx; omega) w1 (fun k => FM k ∨ w1.heap.size ≤ k) m s ((Q5.out.keep KB1.out (by rintro k _ x (q | q); (exact P1.out k q x); (have := P3.out k x; omega))).mono fun _ _ h => .inl h)).mono ?_; rintro e w2 ⟨rfl, hm2, km2⟩; have bk := BK.out.keep km2 (by rintro (q | q); (have := P3.out _ q; omega); (have := BK.out.lt; omega)); have c3 : w2.cell? ⟨b0, 3, none⟩ = some (.string op.text) := bk.cell 3; have HM2 := Lib.hid hm2; have KM2 := Lib.hid km2; have hz2 := km2.size; clear bk hm2 km2))
  clear a3 b3 c3
  go_wp2
  go_ret
  obtain ⟨r1, r2⟩ := WPlay.both (Z := Z) P1.out (fun k q => ⟨(P2.out k q).1, by have := P2.out k q; omega, (P2.out k q).2.2⟩) (fun k q => ⟨(P3.out k q).1, by have := P3.out k q; omega, (P3.out k q).2.2⟩) Q6.out (fun k z => by have := HZ.out k z; omega) HB1.out KB1.out HM2.out KM2.out
  rw [HT.out]
  exact ⟨rfl, r1, (KA.out.mono (fun _ _ q => q.elim)).trans r2⟩

set_option maxHeartbeats 1600000 in
set_option maxRecDepth 100000 in
theorem write_raw (op : OOp) (w0 w : World) (p m : Nat) (s : WS) (Z : Nat → Prop) (hZ : ∀ k, Z k → k < w.heap.size) (h : WPlay w0 Z w p m s) (hgood : op.good w0) (hsl : s.bs.length + op.bulk ≤ 100000000) (hrow : s.row ≤ 100000000) (hkd : (op.kind % 8).toNat = 7) (ht : s.step op = s.raw op.data) :
    Calls Try.prog 29 #[.pointer (some ⟨p, 0, none⟩), .pointer (some ⟨m, 0, none⟩), .agg #[.int .i64 op.kind, .int .i64 op.n, .int .i64 op.num, .string op.text, .slice op.addr op.data.length op.cap]] w (WritePost w0 Z w p m (s.step op)) := by
  obtain ⟨FB, FM, h1, h2, h3, h4, h5, h6⟩ := h
  obtain ⟨_, _, ⟨hu1, hu2⟩, htx, hrb, hdl, hdc, hdn⟩ := hgood
  have P1 := Lib.hid h1
  have P2 := Lib.hid h2
  have P3 := Lib.hid h3
  have ka := (Kept.refl noneS w).alloc (.cells #[.int .i64 op.kind, .int .i64 op.n, .int .i64 op.num, .string op.text, .slice op.addr op.data.length op.cap] 33)
  have Q4 := Lib.hid (h4.still ka)
  have Q5 := Lib.hid (h5.still ka)
  have Q6 := Lib.hid (h6.trans ka)
  have HBk := Lib.hid (Blk.new w 33 #[.int .i64 op.kind, .int .i64 op.n, .int .i64 op.num, .string op.text, .slice op.addr op.data.length op.cap])
  have KA := Lib.hid ka
  have HZ := Lib.hid hZ
  have RD := Lib.hid (hrb.still (h6.trans ka))
  have HDn := Lib.hid hdn
  have a7 := and7w op.kind
  rw [hkd] at a7
  have HT := Lib.hid ht
  clear h1 h2 h3 h4 h5 h6 ka hZ hrb hdn ht hkd
  go_enter Try.func29, Try.ntmps29
  go_upto_region 2 with (fail)
  have hz : w.heap.size < (w.alloc (.cells #[.int .i64 op.kind, .int .i64 op.n, .int .i64 op.num, .string op.text, .slice op.addr op.data.length op.cap] 33)).heap.size := by simp
  generalize w.alloc (.cells #[.int .i64 op.kind, .int .i64 op.n, .int .i64 op.num, .string op.text, .slice op.addr op.data.length op.cap] 33) = wa at Q4 Q5 Q6 HBk hz KA RD ⊢
  generalize w.heap.size = b0 at P2 P3 HBk hz HZ ⊢
  have a4 : wa.cell? ⟨b0, 4, none⟩ = some (.slice op.addr op.data.length op.cap) := HBk.out.cell 4
  clear a7
  have hdl2 : op.data.length ≤ 100000000 := by unfold OOp.bulk at hsl; omega
  go_wp2_with fail
  refine (clone_any op.addr op.cap op.data _ wa RD.out (by omega)).mono ?_
  rintro e w1 ⟨A1, c1, rfl, o1, k1⟩
  have z1 := k1.size
  have O1 := Lib.hid (Own.mono o1 (G := fun k => wa.heap.size ≤ k ∧ k < w1.heap.size) (fun k a q => ⟨q, a⟩))
  have K1 := Lib.hid k1
  have BK1 := Lib.hid (HBk.out.keep k1 (fun q => q))
  clear o1 k1 a4
  go_wp2_with fail
  refine (wsRaw A1 c1 op.data.length op.data rfl (fun k => wa.heap.size ≤ k ∧ k < w1.heap.size) w1 (fun k => FB k ∨ w1.heap.size ≤ k) p s ((Q4.out.still K1.out).mono fun _ _ h => .inl h) (fun i hi => .inr hi) (OB.rb O1.out).2 (fun k a q => by rcases a with a | a; (have := P2.out k a; omega); omega) (by omega)).mono ?_
  rintro e w2 ⟨rfl, hb1, kb1⟩
  have z2 := kb1.size
  have O2 := Lib.hid (Own.keep O1.out kb1 (fun k _ a q => by rcases q with q | q; (have := P2.out k q; omega); omega))
  have BK2 := Lib.hid (BK1.out.keep kb1 (by rintro (q | q); (have := P2.out _ q; omega); omega))
  have b4 : w2.cell? ⟨b0, 4, none⟩ = some (.slice op.addr op.data.length op.cap) := BK2.out.cell 4
  have HB1 := Lib.hid hb1
  have KB1 := Lib.hid kb1
  have hw0 : w0.heap.size ≤ wa.heap.size := Q6.out.size
  have RD2 := Lib.hid ((RD.out.still K1.out).keep kb1 (fun k a b q => by rcases q with q | q; (have := P2.out k q; omega); omega))
  clear hb1 kb1
  go_wp2_with fail
  refine (rwRaw op.addr op.cap op.data.length op.data rfl (· < w0.heap.size) w2 (fun k => FM k ∨ w2.heap.size ≤ k) m s (((Q5.out.still K1.out).keep KB1.out (by rintro k _ x (q | q); (exact P1.out k q x); (have := P3.out k x; omega))).mono fun _ _ h => .inl h) (fun i hi => .inr hi) RD2.out (fun k _ a q => by rcases a with a | a; (have := P3.out k a; omega); omega) (by omega)).mono ?_
  rintro e w3 ⟨rfl, hm2, km2⟩
  have z3 := km2.size
  have O3 := Lib.hid (Own.keep O2.out km2 (fun k _ a q => by rcases q with q | q; (have := P3.out k q; omega); omega))
  have BK3 := Lib.hid (BK2.out.keep km2 (by rintro (q | q); (have := P3.out _ q; omega); (have := BK2.out.lt; omega)))
  have c4 : w3.cell? ⟨b0, 4, none⟩ = some (.slice op.addr op.data.length op.cap) := BK3.out.cell 4
  have RD3 := Lib.hid (RD2.out.keep km2 (fun k a b q => by rcases q with q | q; (have := P3.out k q; omega); omega))
  have HM2 := Lib.hid hm2
  have KM2 := Lib.hid km2
  clear hm2 km2 b4
  go_wp2_with fail
  refine (same_any A1 op.addr c1 op.cap op.data.length op.data.length op.data op.data _ _ w3 (OB.rb O3.out).2 RD3.out rfl rfl).mono ?_
  rintro e w4 ⟨rfl, rfl⟩
  have e2 : (op.data == op.data) = true := by simp
  rw [e2]
  clear e2 c4 BK1 BK2 BK3 RD2 RD3 O1 O2
  obtain ⟨r1, r2⟩ := WPlay.both (W := w1) (Z := fun k => Z k ∨ (wa.heap.size ≤ k ∧ k < w1.heap.size)) P1.out (fun k q => ⟨(P2.out k q).1, by have := P2.out k q; omega, by rintro (z | z); (exact (P2.out k q).2.2 z); (have := P2.out k q; omega)⟩) (fun k q => ⟨(P3.out k q).1, by have := P3.out k q; omega, by rintro (z | z); (exact (P3.out k q).2.2 z); (have := P3.out k q; omega)⟩) (Q6.out.trans K1.out) (fun k z => by rcases z with z | z; (have := HZ.out k z; omega); omega) HB1.out KB1.out HM2.out KM2.out
  have R1 := Lib.hid r1
  have R2 := Lib.hid (((KA.out.trans K1.out).mono (S' := fun k => ¬ Z k) (fun _ _ q => q.elim)).trans2 r2 (fun k _ q z => q (.inl z)))
  clear r1 r2
  generalize hdd : op.data = dd at O3 hdl2 ⊢
  clear hdd
  go_wp2
  go_loopw [29] (fun i wr => ∃ (j : Nat) (bs : List UInt8), j ≤ dd.length ∧ i = .int .i64 j ∧ bs.length = dd.length ∧ OB wr (fun k => wa.heap.size ≤ k ∧ k < w1.heap.size) (.slice A1 dd.length c1) bs ∧ Kept (fun k => wa.heap.size ≤ k ∧ k < w1.heap.size) w3 wr) (fun i _ => dd.length - (intOf i).toNat)
  case atStart => exact ⟨0, dd, Nat.zero_le _, rfl, rfl, O3.out, Kept.refl _ _⟩
  case round =>
    obtain ⟨j, bs, hj, rfl, hbl, hob, hk⟩ := hrel
    have OBr := Lib.hid hob
    have KR := Lib.hid hk
    have HBl := Lib.hid hbl
    clear hob hk hbl
    by_cases hlt : j < dd.length
    · obtain ⟨g, q, hA3, hgF, d0, d1, bs', hbs', hob'⟩ := OB.fill_cells OBr.out HBl.out hlt 0xee
      subst hA3
      have OB' := Lib.hid hob'
      have HBs' := Lib.hid hbs'
      have HGF := Lib.hid hgF
      clear hob' hbs' hgF
      go_wp2
      go_roundw
      case rel => exact ⟨j + 1, bs', by omega, by go_num, HBs'.out, OB'.out, KR.out.setCell (p := ⟨g, j, none⟩) (fun _ => HGF.out) _⟩
      case measure => simp [intOf]; omega
    · go_wp2
      go_ret
      rw [HT.out]
      exact ⟨rfl, R1.out.away KR.out (fun k q => .inr ⟨.inr q, by omega⟩) (fun k z => .inl (.inl z)), R2.out.trans2 KR.out (fun k a q z => by have := HZ.out k z; omega)⟩

theorem write_ok (op : OOp) (w0 w : World) (p m : Nat) (s : WS) (Z : Nat → Prop) (hZ : ∀ k, Z k → k < w.heap.size) (h : WPlay w0 Z w p m s) (hgood : op.good w0) (hsl : s.bs.length + op.bulk ≤ 100000000) (hrow : s.row ≤ 100000000) :
    Calls Try.prog 29 #[.pointer (some ⟨p, 0, none⟩), .pointer (some ⟨m, 0, none⟩), .agg #[.int .i64 op.kind, .int .i64 op.n, .int .i64 op.num, .string op.text, .slice op.addr op.data.length op.cap]] w (WritePost w0 Z w p m (s.step op)) := by
  have hk8 : (op.kind % 8).toNat < 8 := by omega
  rcases (by omega : (op.kind % 8).toNat = 0 ∨ (op.kind % 8).toNat = 1 ∨ (op.kind % 8).toNat = 2 ∨ (op.kind % 8).toNat = 3 ∨ (op.kind % 8).toNat = 4 ∨ (op.kind % 8).toNat = 5 ∨ (op.kind % 8).toNat = 6 ∨ (op.kind % 8).toNat = 7) with hk | hk | hk | hk | hk | hk | hk | hk
  · exact write_num1 op w0 w p m s Z hZ h hgood hsl hrow hk (by unfold WS.step; rw [hk]; rfl)
  · exact write_num2 op w0 w p m s Z hZ h hgood hsl hrow hk (by unfold WS.step; rw [hk]; rfl)
  · exact write_num4 op w0 w p m s Z hZ h hgood hsl hrow hk (by unfold WS.step; rw [hk]; rfl)
  · exact write_num8 op w0 w p m s Z hZ h hgood hsl hrow hk (by unfold WS.step; rw [hk]; rfl)
  · exact write_bit op w0 w p m s Z hZ h hgood hsl hrow hk (by unfold WS.step; rw [hk]; rfl)
  · by_cases h255 : op.text.size ≤ 255
    · exact write_short op w0 w p m s Z hZ h hgood hsl hrow hk (by unfold WS.step; rw [hk]; rfl) h255
    · exact write_toolong op w0 w p m s Z hZ h hgood hsl hrow hk (by unfold WS.step; rw [hk]; rfl) (by omega)
  · exact write_long op w0 w p m s Z hZ h hgood hsl hrow hk (by unfold WS.step; rw [hk]; rfl)
  · exact write_raw op w0 w p m s Z hZ h hgood hsl hrow hk (by unfold WS.step; rw [hk]; rfl)

end Go.Proofs.Ytepligggofbegaa
