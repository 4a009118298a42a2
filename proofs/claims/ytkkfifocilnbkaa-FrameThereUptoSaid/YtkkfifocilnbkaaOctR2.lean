/-
  Contracts of octet.Reader's methods, in plain words.
-/
import Derived.Test.YtkkfifocilnbkaaOctS
import Derived.Deep.CutRange
import Derived.Deep.CutBlock
namespace Go.Proofs.Ytkkfifocilnbkaa
open Go.RowKit

/-- How the row of bits lies in a Reader. -/
def RS.bitsAre (s : RS) (row bits : Int) : Prop := s.code = 0 → (s.row = 0 ∧ bits = 0) ∨ (1 ≤ s.row ∧ bits = 8 - s.row ∧ row = ((s.bs.getD (s.pos - 1) 0).toNat / 2 ^ s.row : Nat))

/-- A Reader at block p. -/
def RSAt (w : World) (F : Nat → Prop) (p : Nat) (s : RS) : Prop := (∃ row bits, RdrAt w F p s.left row bits s.code ∧ s.bitsAre row bits) ∧ s.ok

theorem RSAt.keep {w w' : World} {F S : Nat → Prop} {p : Nat} {s : RS} (h : RSAt w F p s) (hk : Kept S w w') (hd : ∀ k, k < w.heap.size → F k ∨ k = p → S k → False) : RSAt w' F p s := by
  obtain ⟨⟨row, bits, h1, h2⟩, h3⟩ := h
  exact ⟨⟨row, bits, h1.keep hk hd, h2⟩, h3⟩
theorem RSAt.still {w w' : World} {F : Nat → Prop} {p : Nat} {s : RS} (h : RSAt w F p s) (hk : Kept noneS w w') : RSAt w' F p s := h.keep hk fun _ _ _ q => q.elim

theorem newRS (A : Option Addr) (c n : Nat) (xs : List UInt8) (hl : xs.length = n) (F : Nat → Prop) (w : World) (hx : RB w F A xs) (hA : A = none → xs = [] ∧ c = 0) (hn : xs.length ≤ 140737488355328) :
    Calls Try.prog 33 #[.slice A n c] w fun e w' => ∃ p, e = .returned (.pointer (some ⟨p, 0, none⟩)) ∧ w.heap.size ≤ p ∧ p < w'.heap.size ∧ RSAt w' (fun k => w.heap.size ≤ k ∧ k < p) p ⟨xs, 0, 0, 0⟩ ∧ Kept noneS w w' := by
  subst hl
  refine (newReader A c xs F w hx hA hn).mono ?_
  rintro e w' ⟨p, h1, h2, h3, h4, h5⟩
  exact ⟨p, h1, h2, h3, ⟨⟨0, 0, h4, fun _ => .inl ⟨rfl, rfl⟩⟩, by simp [RS.ok]⟩, h5⟩

theorem RS.left_raw (s : RS) (n : Int) : (s.raw n).1.left = s.left.drop (s.raw n).2.length := by
  unfold RS.raw
  split
  · rfl
  · split
    · rfl
    · next h =>
      unfold RS.left
      simp only [List.length_take, List.length_drop, List.drop_drop]
      unfold RS.left at h
      rw [List.length_drop] at h
      rw [Nat.min_eq_left (by omega)]
theorem RS.raw_row (s : RS) (n : Int) : (s.raw n).1.row = 0 := by
  unfold RS.raw
  split
  · rfl
  · split <;> rfl
theorem RS.raw_len (s : RS) (n : Nat) : (s.raw n).2.length ≤ n := by
  unfold RS.raw
  split
  · simp
  · split
    · simp
    · simp; omega

/-- What take leaves. -/
def TakenPost (w : World) (F : Nat → Prop) (p : Nat) (s : RS) (n : Int) (e : Ending) (w' : World) : Prop :=
  ∃ A c, e = .returned (.slice A (s.raw n).2.length c) ∧ RB w' F A (s.raw n).2 ∧ (A = none → (s.raw n).2 = [] ∧ c = 0) ∧ RSAt w' F p (s.raw n).1 ∧ Kept (· = p) w w'

theorem rsTake (n : Int) (w : World) (F : Nat → Prop) (p : Nat) (s : RS) (h : RSAt w F p s) :
    Calls Try.prog 46 #[.pointer (some ⟨p, 0, none⟩), .int .i64 n] w (TakenPost w F p s n) := by
  obtain ⟨⟨row, bits, h1, h2⟩, h3⟩ := h
  have hok := RS.ok_raw s n h3
  have hr := RS.raw_row s n
  by_cases hc : s.code = 0
  · rw [hc] at h1
    by_cases hn : n < 0 ∨ (s.left.length : Int) < n
    · refine (rTake_short n w F p s.left row bits h1 hn).mono ?_
      rintro e w' ⟨rfl, h4, h5⟩
      have e1 : s.raw n = ({ s with row := 0, code := 3 }, []) := by unfold RS.raw; rw [if_neg (by simp [hc]), if_pos hn]
      unfold TakenPost
      rw [e1] at hok ⊢
      exact ⟨none, 0, rfl, RB.nil _ _ _, fun _ => ⟨rfl, rfl⟩, ⟨⟨row, 0, h4, fun q => .inl ⟨rfl, rfl⟩⟩, hok⟩, h5⟩
    · obtain ⟨m, rfl⟩ := Int.eq_ofNat_of_zero_le (show 0 ≤ n by omega)
      refine (rTake_ok m w F p s.left row bits h1 (by omega)).mono ?_
      rintro e w' ⟨A, rfl, h4, h5, h6⟩
      have e1 : s.raw (m : Int) = ({ s with row := 0, pos := s.pos + m }, s.left.take m) := by unfold RS.raw; rw [if_neg (by simp [hc]), if_neg hn]; rfl
      have hl := RS.left_raw s (m : Int)
      have hlen : (s.left.take m).length = m := by simp; omega
      unfold TakenPost
      rw [e1] at hok hl ⊢
      refine ⟨A, m, by rw [hlen], h4, fun q => ?_, ⟨⟨row, 0, ?_, fun _ => .inl ⟨rfl, rfl⟩⟩, hok⟩, h6⟩
      · subst q
        rcases h4 with h | ⟨g, o, h, _⟩
        · have := congrArg List.length h
          rw [bvs_length, hlen] at this
          simp at this
          subst this
          exact ⟨by simp, rfl⟩
        · cases h
      · rw [hl]
        show RdrAt w' F p (s.left.drop (s.left.take m).length) row 0 s.code
        rw [hlen, hc]
        exact h5
  · refine (rTake_err n w F p s.left row bits s.code h1 hc).mono ?_
    rintro e w' ⟨rfl, h4, h5⟩
    have e1 : s.raw n = ({ s with row := 0 }, []) := by unfold RS.raw; rw [if_pos hc]
    unfold TakenPost
    rw [e1] at hok ⊢
    exact ⟨none, 0, rfl, RB.nil _ _ _, fun _ => ⟨rfl, rfl⟩, ⟨⟨row, 0, h4, fun q => .inl ⟨rfl, rfl⟩⟩, hok⟩, h5⟩

def NumPost (w : World) (F : Nat → Prop) (p : Nat) (s : RS) (k : Nat) (e : Ending) (w' : World) : Prop :=
  e = .returned (.int .i64 (s.num k).2) ∧ RSAt w' F p (s.num k).1 ∧ Kept (· = p) w w'

set_option maxHeartbeats 400000 in
theorem rsNumber (k : Nat) (hk8 : k ≤ 8) (w : World) (F : Nat → Prop) (p : Nat) (s : RS) (h : RSAt w F p s) :
    Calls Try.prog 44 #[.pointer (some ⟨p, 0, none⟩), .int .i64 (k : Int)] w (NumPost w F p s k) := by
  have HH := Lib.hid h
  clear h
  go_enter Try.func44, Try.ntmps44
  go_wp2_with fail
  refine (rsTake k w F p s HH.out).mono ?_
  rintro e w1 ⟨A, c, rfl, h1, _, h2, h3⟩
  have hl : (s.raw k).2.length ≤ 8 := Nat.le_trans (RS.raw_len s k) hk8
  have HL : Hid (IntKind.i64.wrap (beNat (s.raw k).2 : Int) = (s.num k).2) := Lib.hid rfl
  have H2 : Hid (RSAt w1 F p (s.num k).1) := Lib.hid h2
  have H3 := Lib.hid h3
  generalize (s.raw k).2 = l at h1 hl HL ⊢
  have H1 := Lib.hid h1
  clear h1 h2 h3
  go_wp2
  go_loop [4, 6, 11] (fun v _ i => ∃ k : Nat, k ≤ l.length ∧ i = .int .i64 k ∧ v = .int .i64 (IntKind.i64.wrap (beNat (l.take k) : Int))) (fun _ _ i => l.length - (intOf i).toNat)
  case atStart => exact ⟨0, Nat.zero_le _, rfl, rfl⟩
  case round =>
    obtain ⟨k, hk, rfl, rfl⟩ := hrel
    by_cases hlt : k < l.length
    · obtain ⟨g, o, rfl, _, hc⟩ := H1.out.at_ hlt
      have hx : beNat (l.take k) < 72057594037927936 := beNat_lt_of (k := 7) (by simp; omega)
      have HS := Lib.hid (beNat_take l k hlt)
      have hc8 := l[k].toNat_lt
      generalize l[k].toNat = c8 at hc hc8 HS
      generalize beNat (l.take k) = X at hx HS ⊢
      have e1 : IntKind.i64.wrap (X : Int) = (X : Int) := IntWalk.i64_in _ (by omega)
      have e2 := or_byte X c8 hx hc8
      go_wp2
      go_round
      case rel => exact ⟨k + 1, by omega, by go_num, by rw [HS.out, wrap64_eq, Int.natCast_add, Int.natCast_mul]; rfl⟩
      case measure => simp [intOf]; omega
    · obtain rfl : k = l.length := by omega
      rw [List.take_length, HL.out]
      go_wp2
      go_ret
      exact ⟨rfl, H2.out, H3.out⟩

theorem rsOctet (w : World) (F : Nat → Prop) (p : Nat) (s : RS) (h : RSAt w F p s) :
    Calls Try.prog 34 #[.pointer (some ⟨p, 0, none⟩)] w (NumPost w F p s 1) := by
  have HH := Lib.hid h
  clear h
  go_enter Try.func34, Try.ntmps34
  go_wp2_with fail
  refine (rsNumber 1 (by decide) w F p s HH.out).mono ?_
  rintro e w1 ⟨rfl, h1, h2⟩
  have H1 := Lib.hid h1
  have H2 := Lib.hid h2
  clear h1 h2
  generalize hv : (s.num 1).2 = v
  have HV := Lib.hid hv
  clear hv
  go_wp2
  go_ret
  exact ⟨by rw [HV.out]; rfl, H1.out, H2.out⟩

theorem rsShort (w : World) (F : Nat → Prop) (p : Nat) (s : RS) (h : RSAt w F p s) :
    Calls Try.prog 35 #[.pointer (some ⟨p, 0, none⟩)] w (NumPost w F p s 2) := by
  have HH := Lib.hid h
  clear h
  go_enter Try.func35, Try.ntmps35
  go_wp2_with fail
  refine (rsNumber 2 (by decide) w F p s HH.out).mono ?_
  rintro e w1 ⟨rfl, h1, h2⟩
  have H1 := Lib.hid h1
  have H2 := Lib.hid h2
  clear h1 h2
  generalize hv : (s.num 2).2 = v
  have HV := Lib.hid hv
  clear hv
  go_wp2
  go_ret
  exact ⟨by rw [HV.out]; rfl, H1.out, H2.out⟩

theorem rsLong (w : World) (F : Nat → Prop) (p : Nat) (s : RS) (h : RSAt w F p s) :
    Calls Try.prog 36 #[.pointer (some ⟨p, 0, none⟩)] w (NumPost w F p s 4) := by
  have HH := Lib.hid h
  clear h
  go_enter Try.func36, Try.ntmps36
  go_wp2_with fail
  refine (rsNumber 4 (by decide) w F p s HH.out).mono ?_
  rintro e w1 ⟨rfl, h1, h2⟩
  have H1 := Lib.hid h1
  have H2 := Lib.hid h2
  clear h1 h2
  generalize hv : (s.num 4).2 = v
  have HV := Lib.hid hv
  clear hv
  go_wp2
  go_ret
  exact ⟨by rw [HV.out]; rfl, H1.out, H2.out⟩






end Go.Proofs.Ytkkfifocilnbkaa
