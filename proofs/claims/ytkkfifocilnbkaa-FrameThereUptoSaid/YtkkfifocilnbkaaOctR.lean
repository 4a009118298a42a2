/-
  Contracts of octet.Reader's methods.
-/
import Derived.Test.YtkkfifocilnbkaaOctW
namespace Go.Proofs.Ytkkfifocilnbkaa
open Go.RowKit

/-- The number that octets are, the greatest first. -/
def beNat (bs : List UInt8) : Nat := bs.foldl (fun u b => u * 256 + b.toNat) 0
theorem beNat_snoc (l : List UInt8) (b : UInt8) : beNat (l ++ [b]) = beNat l * 256 + b.toNat := by simp [beNat]
theorem beNat_take (l : List UInt8) (k : Nat) (h : k < l.length) : beNat (l.take (k + 1)) = beNat (l.take k) * 256 + l[k].toNat := by
  rw [List.take_succ_eq_append_getElem h, beNat_snoc]
theorem fold_lt (l : List UInt8) : ∀ u : Nat, l.foldl (fun u b => u * 256 + b.toNat) u < (u + 1) * 256 ^ l.length := by
  induction l with
  | nil => intro u; simp
  | cons b l ih =>
    intro u
    have h := ih (u * 256 + b.toNat)
    have hb := b.toNat_lt
    rw [List.foldl_cons, List.length_cons, Nat.pow_succ, Nat.mul_comm (256 ^ l.length), ← Nat.mul_assoc]
    exact Nat.lt_of_lt_of_le h (Nat.mul_le_mul_right _ (by omega))
theorem beNat_lt (l : List UInt8) : beNat l < 256 ^ l.length := by
  have := fold_lt l 0
  simpa [beNat] using this
theorem beNat_lt_of {l : List UInt8} {k : Nat} (h : l.length ≤ k) : beNat l < 256 ^ k := Nat.lt_of_lt_of_le (beNat_lt l) (Nat.pow_le_pow_right (by decide) h)

theorem fold_add (l : List UInt8) : ∀ u : Nat, l.foldl (fun u b => u * 256 + b.toNat) u = u * 256 ^ l.length + beNat l := by
  induction l with
  | nil => intro u; simp [beNat]
  | cons b l ih =>
    intro u
    unfold beNat
    rw [List.foldl_cons, List.foldl_cons, ih, ih (0 * 256 + b.toNat), List.length_cons, Nat.pow_succ]
    rw [Nat.add_mul, Nat.zero_mul, Nat.zero_add, Nat.mul_comm (256 ^ l.length) 256, ← Nat.mul_assoc, Nat.add_assoc]
theorem beNat_cons (b : UInt8) (l : List UInt8) : beNat (b :: l) = b.toNat * 256 ^ l.length + beNat l := by
  have h := fold_add l (0 * 256 + b.toNat)
  simpa [beNat] using h
theorem beNat_be (k : Nat) : ∀ n : Nat, n < 256 ^ k → beNat (be k (n : Int)) = n := by
  suffices h : ∀ n : Nat, beNat (be k (n : Int)) = n % 256 ^ k by
    intro n hn
    rw [h, Nat.mod_eq_of_lt hn]
  induction k with
  | zero => intro n; simp [be, beNat, Nat.mod_one]
  | succ k ih =>
    intro n
    rw [be, beNat_cons, be_length, ih]
    have e : (lo8 ((n : Int) / 2 ^ (8 * k))).toNat = n / 256 ^ k % 256 := by
      have h2 : (2 : Int) ^ (8 * k) = ((256 ^ k : Nat) : Int) := by
        rw [show (256 : Nat) = 2 ^ 8 from rfl, ← Nat.pow_mul]
        simp
      rw [h2, ← Int.natCast_ediv]
      have h1 := lo8_val ((n / 256 ^ k : Nat) : Int)
      omega
    rw [e, Nat.pow_succ, Nat.mod_mul]
    rw [Nat.mul_comm, Nat.add_comm]
theorem be_beNat (l : List UInt8) : be l.length (beNat l : Int) = l := by
  suffices h : ∀ u : Nat, be l.length ((u * 256 ^ l.length + beNat l : Nat) : Int) = l by
    have := h 0
    simpa using this
  induction l with
  | nil => intro u; rfl
  | cons b l ih =>
    intro u
    rw [List.length_cons, be, beNat_cons]
    have hb := b.toNat_lt
    have hl := beNat_lt l
    have e : lo8 (((u * 256 ^ (l.length + 1) + (b.toNat * 256 ^ l.length + beNat l) : Nat) : Int) / 2 ^ (8 * l.length)) = b := by
      have h2 : (2 : Int) ^ (8 * l.length) = ((256 ^ l.length : Nat) : Int) := by
        rw [show (256 : Nat) = 2 ^ 8 from rfl, ← Nat.pow_mul]
        simp
      rw [h2, ← Int.natCast_ediv]
      have h3 : (u * 256 ^ (l.length + 1) + (b.toNat * 256 ^ l.length + beNat l)) / 256 ^ l.length = u * 256 + b.toNat := by
        rw [Nat.pow_succ, show u * (256 ^ l.length * 256) + (b.toNat * 256 ^ l.length + beNat l) = beNat l + 256 ^ l.length * (u * 256 + b.toNat) by
          rw [Nat.mul_add, Nat.mul_comm (256 ^ l.length) b.toNat, Nat.mul_left_comm u]; omega]
        rw [Nat.add_mul_div_left _ _ (Nat.pow_pos (by decide)), Nat.div_eq_of_lt hl, Nat.zero_add]
      rw [h3]
      apply UInt8.toNat_inj.1
      have h4 := lo8_val ((u * 256 + b.toNat : Nat) : Int)
      omega
    rw [e, show u * 256 ^ (l.length + 1) + (b.toNat * 256 ^ l.length + beNat l) = (u * 256 + b.toNat) * 256 ^ l.length + beNat l by
      rw [Nat.pow_succ, Nat.add_mul, Nat.mul_comm (256 ^ l.length) 256, ← Nat.mul_assoc]; omega]
    rw [ih]

/-- A Reader at block p: the octets that are left, the row of bits, its number, the first error. -/
def RdrAt (w : World) (F : Nat → Prop) (p : Nat) (bs : List UInt8) (row bits err : Int) : Prop :=
  ∃ A c, Blk w p 80 #[.slice A bs.length c, .int .u8 row, .int .i64 bits, .int .i64 err] ∧ RB w F A bs ∧ bs.length ≤ c ∧ c ≤ maxLen ∧ ¬ F p

theorem RdrAt.keep {w w' : World} {F S : Nat → Prop} {p : Nat} {bs : List UInt8} {row bits err : Int} (h : RdrAt w F p bs row bits err) (hk : Kept S w w') (hd : ∀ k, k < w.heap.size → F k ∨ k = p → S k → False) : RdrAt w' F p bs row bits err := by
  obtain ⟨A, c, h1, h2, h3⟩ := h
  exact ⟨A, c, h1.keep hk (fun q => hd p h1.lt (.inr rfl) q), h2.keep hk (fun k hk1 hf hs => hd k hk1 (.inl hf) hs), h3⟩

set_option maxHeartbeats 400000 in
theorem newReader (A : Option Addr) (c : Nat) (xs : List UInt8) (F : Nat → Prop) (w : World) (hx : RB w F A xs) (hA : A = none → xs = [] ∧ c = 0) (hn : xs.length ≤ 140737488355328) :
    Calls Try.prog 33 #[.slice A xs.length c] w fun e w' => ∃ p, e = .returned (.pointer (some ⟨p, 0, none⟩)) ∧ w.heap.size ≤ p ∧ p < w'.heap.size ∧ RdrAt w' (fun k => w.heap.size ≤ k ∧ k < p) p xs 0 0 0 ∧ Kept noneS w w' := by
  have HX := Lib.hid hx
  have HA := Lib.hid hA
  clear hx hA
  go_enter Try.func33, Try.ntmps33
  go_wp2_with fail
  refine (sClone A c xs F w HX.out HA.out hn).mono ?_
  rintro e w1 ⟨v, rfl, h1, k1⟩
  obtain ⟨A1, c1, rfl, hc, hm, _⟩ := Own.form h1
  have H1 := Lib.hid h1
  have K1 := Lib.hid k1
  have HC := Lib.hid hc
  have HM := Lib.hid hm
  clear h1 k1 hc hm
  go_wp2
  go_ret
  refine ⟨w1.heap.size, rfl, K1.out.size, by simp, ⟨A1, c1, Blk.new _ _ _, ?_, HC.out, HM.out, by omega⟩, K1.out.alloc _⟩
  exact RB.alloc ((OB.rb H1.out).2.mono fun k h1 h2 => ⟨h2, h1⟩) _

set_option maxHeartbeats 400000 in
theorem rTake_ok (n : Nat) (w : World) (F : Nat → Prop) (p : Nat) (bs : List UInt8) (row bits : Int) (h : RdrAt w F p bs row bits 0) (hn : n ≤ bs.length) :
    Calls Try.prog 46 #[.pointer (some ⟨p, 0, none⟩), .int .i64 (n : Int)] w fun e w' => ∃ A, e = .returned (.slice A n n) ∧ RB w' F A (bs.take n) ∧ RdrAt w' F p (bs.drop n) row 0 0 ∧ Kept (· = p) w w' := by
  obtain ⟨A, c, hblk, hrb, hc, hm, hF⟩ := h
  have h0 : w.cell? ⟨p, 0, none⟩ = some (.slice A bs.length c) := hblk.cell 0
  have h2 : w.cell? ⟨p, 2, none⟩ = some (.int .i64 bits) := hblk.cell 2
  have h3 : w.cell? ⟨p, 3, none⟩ = some (.int .i64 0) := hblk.cell 3
  have f0 := hblk.frozen 0
  have f2 := hblk.frozen 2
  have f3 := hblk.frozen 3
  have HB := Lib.hid hblk
  have HR := Lib.hid hrb
  have HF := Lib.hid hF
  unfold maxLen at hm
  clear hblk hrb hF
  go_enter Try.func46, Try.ntmps46
  go_wp2
  all_goals go_ret
  · refine ⟨A, rfl, (HR.out.take n).keep (((Kept.refl (· = p) w).setCell (p := ⟨p, 2, none⟩) (fun _ => rfl) _).setCell (p := ⟨p, 0, none⟩) (fun _ => rfl) _) (fun k _ h1 h2 => HF.out (h2 ▸ h1)), ⟨A, 0, ?_, ?_, by rw [List.length_drop]; omega, by unfold maxLen; omega, HF.out⟩, ((Kept.refl (· = p) w).setCell (p := ⟨p, 2, none⟩) (fun _ => rfl) _).setCell (p := ⟨p, 0, none⟩) (fun _ => rfl) _⟩
    · rw [List.length_drop]
      exact (HB.out.set_ 2 _).set_ 0 _
    · have h := (HR.out.cut (k := n) hc)
      rw [if_pos (by assumption)] at h
      exact h.keep (((Kept.refl (· = p) w).setCell (p := ⟨p, 2, none⟩) (fun _ => rfl) _).setCell (p := ⟨p, 0, none⟩) (fun _ => rfl) _) (fun k _ h1 h2 => HF.out (h2 ▸ h1))
  · refine ⟨A, rfl, (HR.out.take n).keep (((Kept.refl (· = p) w).setCell (p := ⟨p, 2, none⟩) (fun _ => rfl) _).setCell (p := ⟨p, 0, none⟩) (fun _ => rfl) _) (fun k _ h1 h2 => HF.out (h2 ▸ h1)), ⟨A.map (·.add n), c - n, ?_, ?_, by rw [List.length_drop]; omega, by unfold maxLen; omega, HF.out⟩, ((Kept.refl (· = p) w).setCell (p := ⟨p, 2, none⟩) (fun _ => rfl) _).setCell (p := ⟨p, 0, none⟩) (fun _ => rfl) _⟩
    · rw [List.length_drop]
      exact (HB.out.set_ 2 _).set_ 0 _
    · have h := (HR.out.cut (k := n) hc)
      rw [if_neg (by assumption)] at h
      exact h.keep (((Kept.refl (· = p) w).setCell (p := ⟨p, 2, none⟩) (fun _ => rfl) _).setCell (p := ⟨p, 0, none⟩) (fun _ => rfl) _) (fun k _ h1 h2 => HF.out (h2 ▸ h1))

/-- n is a number of octets that are not there. -/
theorem rTake_short (n : Int) (w : World) (F : Nat → Prop) (p : Nat) (bs : List UInt8) (row bits : Int) (h : RdrAt w F p bs row bits 0) (hn : n < 0 ∨ (bs.length : Int) < n) :
    Calls Try.prog 46 #[.pointer (some ⟨p, 0, none⟩), .int .i64 n] w fun e w' => e = .returned (.slice none 0 0) ∧ RdrAt w' F p bs row 0 3 ∧ Kept (· = p) w w' := by
  obtain ⟨A, c, hblk, hrb, hc, hm, hF⟩ := h
  have h0 : w.cell? ⟨p, 0, none⟩ = some (.slice A bs.length c) := hblk.cell 0
  have h2 : w.cell? ⟨p, 2, none⟩ = some (.int .i64 bits) := hblk.cell 2
  have h3 : w.cell? ⟨p, 3, none⟩ = some (.int .i64 0) := hblk.cell 3
  have f0 := hblk.frozen 0
  have f2 := hblk.frozen 2
  have f3 := hblk.frozen 3
  have HB := Lib.hid hblk
  have HR := Lib.hid hrb
  have HF := Lib.hid hF
  clear hblk hrb hF
  have fin : Hid (RdrAt ((w.setCell ⟨p, 2, none⟩ (.int .i64 0)).setCell ⟨p, 3, none⟩ (.int .i64 3)) F p bs row 0 3 ∧ Kept (· = p) w ((w.setCell ⟨p, 2, none⟩ (.int .i64 0)).setCell ⟨p, 3, none⟩ (.int .i64 3))) := by
    have hk := (((Kept.refl (· = p) w).setCell (p := ⟨p, 2, none⟩) (fun _ => rfl) (.int .i64 0)).setCell (p := ⟨p, 3, none⟩) (fun _ => rfl) (.int .i64 3))
    exact Lib.hid ⟨⟨A, c, (HB.out.set_ 2 _).set_ 3 _, HR.out.keep hk (fun k _ h1 h2 => HF.out (h2 ▸ h1)), hc, hm, HF.out⟩, hk⟩
  rcases hn with hn | hn
  · have hd : decide (n < 0) = true := by simpa using hn
    go_enter Try.func46, Try.ntmps46
    go_wp2
    go_ret
    exact ⟨rfl, fin.out⟩
  · have hd : decide (n < 0) = false := by simp; omega
    go_enter Try.func46, Try.ntmps46
    go_wp2
    go_ret
    exact ⟨rfl, fin.out⟩

theorem rTake_err (n : Int) (w : World) (F : Nat → Prop) (p : Nat) (bs : List UInt8) (row bits err : Int) (h : RdrAt w F p bs row bits err) (he : err ≠ 0) :
    Calls Try.prog 46 #[.pointer (some ⟨p, 0, none⟩), .int .i64 n] w fun e w' => e = .returned (.slice none 0 0) ∧ RdrAt w' F p bs row 0 err ∧ Kept (· = p) w w' := by
  obtain ⟨A, c, hblk, hrb, hc, hm, hF⟩ := h
  have h0 : w.cell? ⟨p, 0, none⟩ = some (.slice A bs.length c) := hblk.cell 0
  have h2 : w.cell? ⟨p, 2, none⟩ = some (.int .i64 bits) := hblk.cell 2
  have h3 : w.cell? ⟨p, 3, none⟩ = some (.int .i64 err) := hblk.cell 3
  have f2 := hblk.frozen 2
  have e1 : (err == 0) = false := by simpa using he
  have e2 : (err != 0) = true := by simpa using he
  have HB := Lib.hid hblk
  have HR := Lib.hid hrb
  have HF := Lib.hid hF
  clear hblk hrb hF he
  go_enter Try.func46, Try.ntmps46
  go_wp2
  go_ret
  have hk := ((Kept.refl (· = p) w).setCell (p := ⟨p, 2, none⟩) (fun _ => rfl) (.int .i64 0))
  exact ⟨rfl, ⟨A, c, HB.out.set_ 2 _, HR.out.keep hk (fun k _ h1 h2 => HF.out (h2 ▸ h1)), hc, hm, HF.out⟩, hk⟩

theorem wrap64_eq (n : Int) : wrap64 n = IntKind.i64.wrap n := by
  rw [IntKind.wrap_i64]
  unfold wrap64
  rfl
theorem or_byte (x c : Nat) (hx : x < 72057594037927936) (hc : c < 256) : bits .or .i64 (wrap64 ((x : Int) * 256)) (c : Int) = IntKind.i64.wrap (((x * 256 + c : Nat)) : Int) := by
  rw [wrap64_eq]
  have h1 : (BitVec.ofInt 64 (IntKind.i64.wrap ((x : Int) * 256))).toNat = x * 256 := by
    rw [BitVec.toNat_ofInt, IntKind.wrap_i64]
    omega
  have h2 : (BitVec.ofInt 64 (c : Int)).toNat = c := by
    rw [BitVec.toNat_ofInt]
    omega
  show IntKind.i64.wrap ((BitVec.ofInt 64 (IntKind.i64.wrap ((x : Int) * 256)) ||| BitVec.ofInt 64 (c : Int)).toNat : Int) = _
  rw [BitVec.toNat_or, h1, h2, nat_join 8 (x * 256) c (by omega) hc]

set_option maxHeartbeats 400000 in
theorem rNumber_ok (n : Nat) (hn8 : n ≤ 8) (w : World) (F : Nat → Prop) (p : Nat) (bs : List UInt8) (row bits : Int) (h : RdrAt w F p bs row bits 0) (hn : n ≤ bs.length) :
    Calls Try.prog 44 #[.pointer (some ⟨p, 0, none⟩), .int .i64 (n : Int)] w fun e w' => e = .returned (.int .i64 (IntKind.i64.wrap (beNat (bs.take n) : Int))) ∧ RdrAt w' F p (bs.drop n) row 0 0 ∧ Kept (· = p) w w' := by
  have HH := Lib.hid h
  clear h
  go_enter Try.func44, Try.ntmps44
  go_wp2_with fail
  refine (rTake_ok n w F p bs row bits HH.out hn).mono ?_
  rintro e w1 ⟨A, rfl, h1, h2⟩
  have hl : n = (bs.take n).length := by simp; omega
  generalize hL : bs.take n = l at h1 hl
  subst hl
  have HL := Lib.hid hL
  clear hL
  have H1 := Lib.hid h1
  have H2 := Lib.hid h2
  clear h1 h2
  go_wp2
  go_loop [4, 6, 11] (fun v _ i => ∃ k : Nat, k ≤ l.length ∧ i = .int .i64 k ∧ v = .int .i64 (IntKind.i64.wrap (beNat (l.take k) : Int))) (fun _ _ i => l.length - (intOf i).toNat)
  case atStart => exact ⟨0, Nat.zero_le _, rfl, rfl⟩
  case round =>
    obtain ⟨k, hk, rfl, rfl⟩ := hrel
    by_cases hlt : k < l.length
    · obtain ⟨g, o, rfl, _, hc⟩ := H1.out.at_ hlt
      have hx : beNat (l.take k) < 72057594037927936 := beNat_lt_of (k := 7) (by simp; omega)
      have HS := Lib.hid (beNat_take l k hlt)
      have hc8 := l[k].toNat_lt
      generalize l[k].toNat = c8 at hc hc8 HS
      generalize beNat (l.take k) = X at hx HS ⊢
      have e1 : IntKind.i64.wrap (X : Int) = (X : Int) := IntWalk.i64_in _ (by omega)
      have e2 := or_byte X c8 hx hc8
      go_wp2
      go_round
      case rel => exact ⟨k + 1, by omega, by go_num, by rw [HS.out, wrap64_eq, Int.natCast_add, Int.natCast_mul]; rfl⟩
      case measure => simp [intOf]; omega
    · obtain rfl : k = l.length := by omega
      go_wp2
      go_ret
      rw [HL.out]
      exact ⟨rfl, H2.out⟩

set_option maxHeartbeats 400000 in
theorem rLong_ok (w : World) (F : Nat → Prop) (p : Nat) (bs : List UInt8) (row bits : Int) (h : RdrAt w F p bs row bits 0) (hn : 4 ≤ bs.length) :
    Calls Try.prog 36 #[.pointer (some ⟨p, 0, none⟩)] w fun e w' => e = .returned (.int .i64 (beNat (bs.take 4) : Int)) ∧ RdrAt w' F p (bs.drop 4) row 0 0 ∧ Kept (· = p) w w' := by
  have HH := Lib.hid h
  clear h
  go_enter Try.func36, Try.ntmps36
  go_wp2_with fail
  refine (rNumber_ok 4 (by decide) w F p bs row bits HH.out hn).mono ?_
  rintro e w1 ⟨rfl, h1⟩
  have H1 := Lib.hid h1
  clear h1
  have hx : beNat (bs.take 4) < 4294967296 := beNat_lt_of (k := 4) (by simp; omega)
  have e1 : IntKind.i64.wrap (beNat (bs.take 4) : Int) = (beNat (bs.take 4) : Int) := IntWalk.i64_in _ (by omega)
  rw [e1]
  clear e1 hx
  go_wp2
  go_ret
  exact ⟨rfl, H1.out⟩

end Go.Proofs.Ytkkfifocilnbkaa
