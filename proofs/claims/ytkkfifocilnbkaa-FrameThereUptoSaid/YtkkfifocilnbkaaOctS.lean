/-
  Writers and Readers of octets in plain words: what they hold, what each call makes of it. Nothing of the program is in it.
-/
import Derived.Test.YtkkfifocilnbkaaOctR
namespace Go.Proofs.Ytkkfifocilnbkaa
open Go.RowKit

/-- A Writer: its octets, how many bits the row at the end has. -/
structure WS where
  bs : List UInt8
  row : Nat

def b01 (b : Bool) : UInt8 := if b then 1 else 0
/-- The octet x, with a bit added at place k. -/
def setBit (x : UInt8) (k : Nat) (b : Bool) : UInt8 := if b then lo8 ((x.toNat : Int) + 2 ^ k) else x

def WS.raw (s : WS) (l : List UInt8) : WS := ⟨s.bs ++ l, 0⟩
def WS.num (s : WS) (k : Nat) (n : Int) : WS := s.raw (be k n)
def WS.bit (s : WS) (b : Bool) : WS :=
  if s.row % 8 = 0 then ⟨s.bs ++ [b01 b], s.row + 1⟩ else ⟨s.bs.dropLast ++ [setBit (s.bs.getLastD 0) (s.row % 8) b], s.row + 1⟩
def WS.short (s : WS) (l : List UInt8) : WS := if 255 < l.length then ⟨s.bs, 0⟩ else (s.num 1 l.length).raw l
def WS.long (s : WS) (l : List UInt8) : WS := (s.num 4 l.length).raw l

/-- The row's octet is there, and has no bits from its place on. -/
def WS.ok (s : WS) : Prop := s.row % 8 ≠ 0 → s.bs ≠ [] ∧ (s.bs.getLastD 0).toNat < 2 ^ (s.row % 8)

theorem WS.ok_raw (s : WS) (l : List UInt8) : (s.raw l).ok := fun h => absurd rfl h
theorem WS.ok_num (s : WS) (k : Nat) (n : Int) : (s.num k n).ok := WS.ok_raw _ _
theorem WS.ok_short (s : WS) (l : List UInt8) : (s.short l).ok := by
  unfold WS.short
  split
  · exact fun h => absurd rfl h
  · exact WS.ok_raw _ _
theorem WS.ok_long (s : WS) (l : List UInt8) : (s.long l).ok := WS.ok_raw _ _

theorem setBit_val (x : UInt8) (k : Nat) (b : Bool) (hk : k < 8) (hx : x.toNat < 2 ^ k) : (setBit x k b).toNat = x.toNat + (if b then 2 ^ k else 0) := by
  unfold setBit
  cases b
  · simp
  · simp only [if_true]
    have h := lo8_val ((x.toNat : Int) + 2 ^ k)
    have h2 : (2 : Nat) ^ k * 2 ≤ 256 := by
      have : (2 : Nat) ^ (k + 1) ≤ 2 ^ 8 := Nat.pow_le_pow_right (by decide) (by omega)
      rwa [Nat.pow_succ] at this
    have e : ((2 : Int) ^ k) = ((2 ^ k : Nat) : Int) := by simp
    rw [e] at h
    have e2 : lo8 ((x.toNat : Int) + 2 ^ k) = lo8 ((x.toNat : Int) + ((2 ^ k : Nat) : Int)) := by rw [e]
    rw [e2]
    omega

theorem WS.ok_bit (s : WS) (b : Bool) (h : s.ok) : (s.bit b).ok := by
  unfold WS.bit
  split
  next h0 =>
    intro _
    refine ⟨by simp, ?_⟩
    have e : (s.row + 1) % 8 = 1 := by omega
    show ((s.bs ++ [b01 b]).getLastD 0).toNat < 2 ^ ((s.row + 1) % 8)
    rw [e]
    cases b <;> simp [b01]
  next h0 =>
    intro h1
    obtain ⟨h2, h3⟩ := h h0
    refine ⟨by simp, ?_⟩
    have e : (s.row + 1) % 8 = s.row % 8 + 1 := by
      have h1' : (s.row + 1) % 8 ≠ 0 := h1
      omega
    show ((s.bs.dropLast ++ [setBit (s.bs.getLastD 0) (s.row % 8) b]).getLastD 0).toNat < 2 ^ ((s.row + 1) % 8)
    rw [e, Nat.pow_succ]
    simp only [List.getLastD_concat]
    rw [setBit_val _ _ _ (by omega) h3]
    cases b
    · rw [if_neg (by decide)]; omega
    · rw [if_pos rfl]; omega

/-- A Reader: all octets, how many are taken, how many bits of the last one taken are taken (0: no row), the first error. -/
structure RS where
  bs : List UInt8
  pos : Nat
  row : Nat
  code : Int

def RS.left (s : RS) : List UInt8 := s.bs.drop s.pos
def RS.raw (s : RS) (n : Int) : RS × List UInt8 :=
  if s.code ≠ 0 then ({ s with row := 0 }, [])
  else if n < 0 ∨ (s.left.length : Int) < n then ({ s with row := 0, code := 3 }, [])
  else ({ s with row := 0, pos := s.pos + n.toNat }, s.left.take n.toNat)
def RS.num (s : RS) (k : Nat) : RS × Int := ((s.raw k).1, IntKind.i64.wrap (beNat (s.raw k).2 : Int))
def RS.bit (s : RS) : RS × Bool :=
  if s.code ≠ 0 then ({ s with row := 0 }, false)
  else if s.row % 8 = 0 then
    if s.left.length = 0 then ({ s with code := 3 }, false)
    else ({ s with pos := s.pos + 1, row := 1 }, (s.bs.getD s.pos 0).toNat % 2 == 1)
  else ({ s with row := s.row + 1 }, (s.bs.getD (s.pos - 1) 0).toNat / 2 ^ s.row % 2 == 1)
def RS.text (s : RS) (k : Nat) : RS × List UInt8 :=
  if (s.num k).1.code ≠ 0 then ((s.num k).1, [])
  else if ((s.num k).1.left.length : Int) < (s.num k).2 then ({ (s.num k).1 with pos := s.pos, code := 3 }, [])
  else (s.num k).1.raw (s.num k).2
def RS.fin (s : RS) : Int := if s.code = 0 ∧ 0 < s.left.length then 4 else s.code

/-- What all calls keep. -/
def RS.ok (s : RS) : Prop := s.pos ≤ s.bs.length ∧ s.row ≤ 8 ∧ (s.row ≠ 0 → 1 ≤ s.pos)

theorem RS.ok_raw (s : RS) (n : Int) (h : s.ok) : (s.raw n).1.ok := by
  obtain ⟨h1, h2, h3⟩ := h
  unfold RS.raw
  split
  · exact ⟨h1, by simp, fun q => absurd rfl q⟩
  · split
    · exact ⟨h1, by simp, fun q => absurd rfl q⟩
    · next h4 =>
      refine ⟨?_, by simp, fun q => absurd rfl q⟩
      unfold RS.left at h4
      rw [List.length_drop] at h4
      show s.pos + n.toNat ≤ s.bs.length
      omega
theorem RS.ok_num (s : RS) (k : Nat) (h : s.ok) : (s.num k).1.ok := RS.ok_raw _ _ h
theorem RS.ok_bit (s : RS) (h : s.ok) : s.bit.1.ok := by
  obtain ⟨h1, h2, h3⟩ := h
  unfold RS.bit
  split
  · exact ⟨h1, by simp, fun q => absurd rfl q⟩
  · split
    · split
      · exact ⟨h1, h2, h3⟩
      · next h4 =>
        unfold RS.left at h4
        rw [List.length_drop] at h4
        exact ⟨by show s.pos + 1 ≤ s.bs.length; omega, by simp, fun _ => by simp⟩
    · next h5 => exact ⟨h1, by show s.row + 1 ≤ 8; omega, fun _ => h3 (by omega)⟩
theorem RS.ok_text (s : RS) (k : Nat) (h : s.ok) : (s.text k).1.ok := by
  have hn := RS.ok_num s k h
  unfold RS.text
  split
  · exact hn
  · split
    · refine ⟨?_, hn.2.1, fun q => ?_⟩
      · have : (s.num k).1.bs = s.bs := by unfold RS.num RS.raw; dsimp only; split <;> (try split) <;> rfl
        show s.pos ≤ (s.num k).1.bs.length
        rw [this]
        exact h.1
      · exfalso
        apply q
        show (s.num k).1.row = 0
        unfold RS.num RS.raw
        dsimp only
        split <;> (try split) <;> rfl
    · exact RS.ok_raw _ _ hn

end Go.Proofs.Ytkkfifocilnbkaa
