/-
  disk.Disk.Append.
-/
import Derived.Test.YtnlmkfncdklcdaaDkApp
import Derived.Test.YtnlmkfncdklcdaaDkGood
namespace Go.Proofs.Ytnlmkfncdklcdaa
open Go.RowKit

/-- The file of that name, or a new one. -/
def DiskS.fileOr (s : DiskS) (nm : ByteArray) : FileS := (s.get nm.toList).getD ⟨nm, [], []⟩
/-- Octets are written behind a file's others. -/
def DiskS.app (s : DiskS) (nm : ByteArray) (b : List UInt8) : DiskS :=
  { s with files := putF ⟨nm, (s.fileOr nm).data ++ b, (s.fileOr nm).safe⟩ s.files, pend := s.pend ++ [⟨nm, (s.fileOr nm).data.length, b⟩], used := s.used + b.length }
def DiskS.appErr (s : DiskS) (nm : ByteArray) (n : Nat) : Int := if goodB nm = false then 110 else if s.room < s.used + n then 6 else 0
def DiskS.appOut (s : DiskS) (nm : ByteArray) (b : List UInt8) : DiskS := if s.appErr nm b.length = 0 then s.app nm b else s

set_option maxHeartbeats 1600000 in
theorem appendBad (F : Nat → Prop) (p N : Nat) (s : DiskS) (nm : ByteArray) (A : Option Addr) (b : List UInt8) (c : Nat) (w : World) (h : DAt w F p s N) (hn : nm.size ≤ 140737488351232) (hb : b.length ≤ 140737488355328) (hu : 0 ≤ s.used ∧ s.used ≤ 1152921504606846976) (he : s.appErr nm b.length ≠ 0) :
    Calls Try.prog 19 #[.pointer (some ⟨p, 0, none⟩), .string nm, .slice A b.length c] w fun e w' => e = .returned (.int .i64 (s.appErr nm b.length)) ∧ Kept noneS w w' := by
  obtain ⟨r, HR⟩ : ∃ r, Hid (s.appErr nm b.length = r) := ⟨_, Lib.hid rfl⟩
  rw [HR.out] at he ⊢
  have HD := Lib.hid h
  clear h
  rcases hg : goodB nm with _ | _
  · obtain rfl : r = 110 := by rw [← HR.out]; unfold DiskS.appErr; rw [if_pos hg]
    clear HR he
    go_enter Try.func19, Try.ntmps19
    go_wp2_with fail
    refine (goodName nm w hn).mono ?_
    rw [hg]
    rintro e w1 ⟨rfl, k1⟩
    have K1 := Lib.hid k1
    clear k1
    go_wp2_with fail
    go_ret
    exact ⟨rfl, K1.out⟩
  · have hr : s.room < s.used + b.length ∧ r = 6 := by
      have h1 := HR.out
      unfold DiskS.appErr at h1
      rw [if_neg (by rw [hg]; decide)] at h1
      by_cases h2 : s.room < s.used + b.length
      · rw [if_pos h2] at h1
        exact ⟨h2, h1.symm⟩
      · rw [if_neg h2] at h1
        exact absurd h1.symm he
    obtain ⟨hroom, rfl⟩ := hr
    clear HR he
    go_enter Try.func19, Try.ntmps19
    go_wp2_with fail
    refine (goodName nm w hn).mono ?_
    rw [hg]
    rintro e w1 ⟨rfl, k1⟩
    have K1 := Lib.hid k1
    obtain ⟨tag, m, pv, hb', _, ho⟩ := HD.out.open_
    have hbk := ho.blk.keep k1 (fun q => q)
    have c2 : w1.cell? ⟨p, 2, none⟩ = some (.int .i64 s.room) := hbk.cell 2
    have c3 : w1.cell? ⟨p, 3, none⟩ = some (.int .i64 s.used) := hbk.cell 3
    have hr1 := ho.room.1
    have hr2 := ho.room.2
    have hu1 := hu.1
    have hu2 := hu.2
    clear k1 hbk ho hu hg
    by_cases h2 : s.room < s.used
    · have d2 : decide (s.room < s.used) = true := decide_eq_true h2
      go_wp2_with fail
      go_quiet (fail)
      go_wp2
      go_ret
      exact ⟨rfl, K1.out.drewN _⟩
    · have d2 : decide (s.room < s.used) = false := decide_eq_false h2
      have d3 : decide (s.room - s.used < (b.length : Int)) = true := decide_eq_true (by omega)
      go_wp2_with fail
      go_quiet (fail)
      go_wp2
      go_ret
      exact ⟨rfl, K1.out.drewN _⟩

theorem put_self (f : FileS) : ∀ l : List FileS, Asc l → l.find? (fun x => x.key == f.key) = some f → putF f l = l
  | [], _, h => by cases h
  | g :: l, ha, h => by
    obtain ⟨h3, h4⟩ := List.pairwise_cons.1 ha
    rw [List.find?_cons] at h
    rw [putF]
    by_cases h1 : g.key = f.key
    · have e : (g.key == f.key) = true := by simpa using h1
      rw [e] at h
      have : g = f := by simpa using h
      rw [if_pos h1, this]
    · have e : (g.key == f.key) = false := by simpa using h1
      rw [e] at h
      have hm := List.mem_of_find?_eq_some h
      rw [if_neg h1, if_neg (fun q => lt_irr _ (lt_tr q (h3 f hm))), put_self f l h4 h]

end Go.Proofs.Ytnlmkfncdklcdaa
