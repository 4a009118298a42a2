/-
  Contracts of octet.Writer's methods, in plain words.
-/
import Derived.Test.YtkkfifocilnbkaaOctS
import Derived.Test.YtkkfifocilnbkaaStr
import Derived.StillTailTactics
namespace Go.Proofs.Ytkkfifocilnbkaa
open Go.RowKit

/-- How many bits of the last octet a Writer has. -/
def rowBits (row : Nat) : Nat := if row = 0 then 0 else (row - 1) % 8 + 1
/-- A Writer at block p. -/
def WSAt (w : World) (F : Nat → Prop) (p : Nat) (s : WS) : Prop := WrAt w F p s.bs (rowBits s.row : Nat) ∧ s.ok
theorem WSAt.keep {w w' : World} {F S : Nat → Prop} {p : Nat} {s : WS} (h : WSAt w F p s) (hk : Kept S w w') (hd : ∀ k, k < w.heap.size → F k → S k → False) : WSAt w' F p s := ⟨h.1.keep hk hd, h.2⟩
theorem WSAt.still {w w' : World} {F : Nat → Prop} {p : Nat} {s : WS} (h : WSAt w F p s) (hk : Kept noneS w w') : WSAt w' F p s := h.keep hk fun _ _ _ q => q.elim
theorem WrAt.mono {w : World} {F G : Nat → Prop} {p : Nat} {bs : List UInt8} {bits : Int} (h : WrAt w F p bs bits) (hG : ∀ k, k < w.heap.size → F k → G k) : WrAt w G p bs bits := by
  obtain ⟨sv, h1, h2, h3⟩ := h
  exact ⟨sv, h1, Own.mono h2 hG, hG p h1.lt h3⟩
theorem WSAt.mono {w : World} {F G : Nat → Prop} {p : Nat} {s : WS} (h : WSAt w F p s) (hG : ∀ k, k < w.heap.size → F k → G k) : WSAt w G p s := ⟨h.1.mono hG, h.2⟩

theorem newWS (w : World) : Calls Try.prog 25 #[] w fun e w' => e = .returned (.pointer (some ⟨w.heap.size, 0, none⟩)) ∧ WSAt w' (w.heap.size ≤ ·) w.heap.size ⟨[], 0⟩ ∧ Kept noneS w w' :=
  (newWriter w).mono fun _ _ ⟨h1, h2, h3⟩ => ⟨h1, ⟨h2, fun h => absurd rfl h⟩, h3⟩

set_option maxHeartbeats 400000 in
theorem wsOctet (n : Int) (w : World) (F : Nat → Prop) (p : Nat) (s : WS) (h : WSAt w F p s) (hF : ∀ j, w.heap.size ≤ j → F j) (hn : s.bs.length ≤ 140737488355000)
    (hlo : -9223372036854775808 ≤ n) (hhi : n ≤ 9223372036854775807) :
    Calls Try.prog 26 #[.pointer (some ⟨p, 0, none⟩), .int .i64 n] w fun e w' => e = .returned (.tuple #[]) ∧ WSAt w' F p (s.num 1 n) ∧ Kept F w w' := by
  have HH := Lib.hid h.1
  have HF := Lib.hid hF
  clear h hF
  go_enter Try.func26, Try.ntmps26
  go_wp2_with (go_at_call 43; refine (wNumber 1 (by decide) n _ F p s.bs _ HH.out HF.out hn hlo hhi).mono ?_; rintro e w' ⟨rfl, hq⟩)
  go_end0
  exact ⟨rfl, ⟨hq.1, WS.ok_num _ _ _⟩, hq.2⟩

set_option maxHeartbeats 400000 in
theorem wsShort (n : Int) (w : World) (F : Nat → Prop) (p : Nat) (s : WS) (h : WSAt w F p s) (hF : ∀ j, w.heap.size ≤ j → F j) (hn : s.bs.length ≤ 140737488355000)
    (hlo : -9223372036854775808 ≤ n) (hhi : n ≤ 9223372036854775807) :
    Calls Try.prog 27 #[.pointer (some ⟨p, 0, none⟩), .int .i64 n] w fun e w' => e = .returned (.tuple #[]) ∧ WSAt w' F p (s.num 2 n) ∧ Kept F w w' := by
  have HH := Lib.hid h.1
  have HF := Lib.hid hF
  clear h hF
  go_enter Try.func27, Try.ntmps27
  go_wp2_with (go_at_call 43; refine (wNumber 2 (by decide) n _ F p s.bs _ HH.out HF.out hn hlo hhi).mono ?_; rintro e w' ⟨rfl, hq⟩)
  go_end0
  exact ⟨rfl, ⟨hq.1, WS.ok_num _ _ _⟩, hq.2⟩

set_option maxHeartbeats 400000 in
theorem wsLong (n : Int) (w : World) (F : Nat → Prop) (p : Nat) (s : WS) (h : WSAt w F p s) (hF : ∀ j, w.heap.size ≤ j → F j) (hn : s.bs.length ≤ 140737488355000)
    (hlo : -9223372036854775808 ≤ n) (hhi : n ≤ 9223372036854775807) :
    Calls Try.prog 28 #[.pointer (some ⟨p, 0, none⟩), .int .i64 n] w fun e w' => e = .returned (.tuple #[]) ∧ WSAt w' F p (s.num 4 n) ∧ Kept F w w' := by
  have HH := Lib.hid h.1
  have HF := Lib.hid hF
  clear h hF
  go_enter Try.func28, Try.ntmps28
  go_wp2_with (go_at_call 43; refine (wNumber 4 (by decide) n _ F p s.bs _ HH.out HF.out hn hlo hhi).mono ?_; rintro e w' ⟨rfl, hq⟩)
  go_end0
  exact ⟨rfl, ⟨hq.1, WS.ok_num _ _ _⟩, hq.2⟩


set_option maxHeartbeats 400000 in
theorem wsRaw (A : Option Addr) (c n : Nat) (xs : List UInt8) (hl : xs.length = n) (G : Nat → Prop) (w : World) (F : Nat → Prop) (p : Nat) (s : WS) (h : WSAt w F p s) (hF : ∀ j, w.heap.size ≤ j → F j)
    (hx : RB w G A xs) (hd : ∀ k, F k → G k → False) (hn : s.bs.length + xs.length ≤ 140737488355000) :
    Calls Try.prog 29 #[.pointer (some ⟨p, 0, none⟩), .slice A n c] w fun e w' => e = .returned (.tuple #[]) ∧ WSAt w' F p (s.raw xs) ∧ Kept F w w' := by
  subst hl
  exact (wRaw A c xs G w F p s.bs _ h.1 hF hx hd hn).mono fun _ _ ⟨h1, h2, h3⟩ => ⟨h1, ⟨h2, WS.ok_raw _ _⟩, h3⟩




end Go.Proofs.Ytkkfifocilnbkaa
