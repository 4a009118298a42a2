/-
  disk.Disk: Used, Pending, Read.
-/
import Derived.Test.YtnlmkfncdklcdaaDkState
namespace Go.Proofs.Ytnlmkfncdklcdaa
open Go.RowKit

theorem zeroPtr (w : World) : (zeroValue 69).run Try.prog w = .ok (.pointer none) w := by kernel_rfl

theorem diskUsed (F : Nat → Prop) (p N : Nat) (s : DiskS) (w : World) (h : DAt w F p s N) : Calls Try.prog 17 #[.pointer (some ⟨p, 0, none⟩)] w fun e w' => e = .returned (.int .i64 s.used) ∧ w = w' := by
  obtain ⟨tag, m, pv, hb, _, _, _, _, h5, _⟩ := h
  have c3 : w.cell? ⟨p, 3, none⟩ = some (.int .i64 s.used) := h5.cell 3
  clear h5
  go_enter Try.func17, Try.ntmps17
  go_wp2
  go_ret
  exact ⟨rfl, rfl⟩

theorem PendAt.form {w : World} {tag : Nat → DTag} {pv : Value} {ps : List WrS} (h : PendAt w tag pv ps) : ∃ A c, pv = .slice A ps.length c ∧ ps.length ≤ c ∧ c ≤ maxLen := by
  obtain ⟨css, h1, _⟩ := h
  obtain ⟨A, c, rfl, h2, h3, _⟩ := Own.form h1
  exact ⟨A, c, rfl, h2, h3⟩

theorem diskPending (F : Nat → Prop) (p N : Nat) (s : DiskS) (w : World) (h : DAt w F p s N) : Calls Try.prog 16 #[.pointer (some ⟨p, 0, none⟩)] w fun e w' => e = .returned (.int .i64 (s.pend.length : Int)) ∧ w = w' := by
  obtain ⟨tag, m, pv, hb, _, _, _, _, h5, _, _, h8, _⟩ := h
  obtain ⟨A, c, rfl, _, _⟩ := h8.form
  have c3 : w.cell? ⟨p, 1, none⟩ = some (.slice A s.pend.length c) := h5.cell 1
  clear h5 h8
  go_enter Try.func16, Try.ntmps16
  go_wp2
  go_ret
  exact ⟨rfl, rfl⟩

/-- A file of the disk. -/
theorem DiskS.get_mem {s : DiskS} {nm : List UInt8} {f : FileS} (h : s.get nm = some f) : f ∈ s.files ∧ f.key = nm := by
  unfold DiskS.get at h
  have h1 := List.mem_of_find?_eq_some h
  have h2 := List.find?_some h
  exact ⟨h1, by simpa using h2⟩

/-- What Read answers. -/
def ReadPost (w : World) (r : Option FileS) (e : Ending) (w' : World) : Prop :=
  match r with
  | some f => ∃ A c, e = .returned (.tuple #[.slice A f.data.length c, .bool true]) ∧ OB w' (w.heap.size ≤ ·) (.slice A f.data.length c) f.data ∧ Kept noneS w w'
  | none => e = .returned (.tuple #[.slice none 0 0, .bool false]) ∧ w' = w

set_option maxHeartbeats 800000 in
theorem diskRead (F : Nat → Prop) (p N : Nat) (s : DiskS) (nm : ByteArray) (w : World) (h : DAt w F p s N) (hn : nm.size ≤ 140737488351232) (hd : ∀ f ∈ s.files, f.data.length ≤ 140737488355328) :
    Calls Try.prog 28 #[.pointer (some ⟨p, 0, none⟩), .string nm] w (ReadPost w (s.get nm.toList)) := by
  obtain ⟨tag, m, pv, hb, _, _, _, _, h5, h6, h7, h8, _⟩ := h
  have c0 : w.cell? ⟨p, 0, none⟩ = some (.map (some m)) := h5.cell 0
  have lk := h6.look Try.underlying65 (.pointer none) (zeroPtr w) nm hn
  clear h5 h6 h8
  rcases hg : s.get nm.toList with _ | f
  · rw [hg] at lk
    simp only [Option.map_none, Option.getD_none] at lk
    unfold ReadPost
    clear h7 hg
    go_enter Try.func28, Try.ntmps28
    go_wp2
    go_ret2
    exact ⟨rfl, rfl⟩
  · rw [hg] at lk
    simp only [Option.map_some, Option.getD_some] at lk
    obtain ⟨hm, hk⟩ := DiskS.get_mem hg
    obtain ⟨_, _, dv, sv, b1, b2, _⟩ := h7 f hm
    rw [hk] at b1
    obtain ⟨A, c, rfl, r1, r2, r3, r4⟩ := b2.sl
    have d0 : w.cell? ⟨hb nm.toList, 0, none⟩ = some (.slice A f.data.length c) := b1.cell 0
    have HR := Lib.hid r1
    have HA := Lib.hid r4
    have hdl := hd f hm
    unfold ReadPost
    clear h7 hg b1 b2 r1 r4 hm hk hd
    generalize hb nm.toList = b at lk d0
    go_enter Try.func28, Try.ntmps28
    go_wp2_with fail
    refine (sClone A c f.data _ w HR.out HA.out hdl).mono ?_
    rintro e w1 ⟨v1, rfl, o1, k1⟩
    obtain ⟨A1, c1, rfl, _⟩ := Own.form o1
    have O1 := Lib.hid o1
    have K1 := Lib.hid k1
    clear o1 k1
    go_wp2
    go_ret2
    exact ⟨A1, c1, rfl, O1.out, K1.out⟩

end Go.Proofs.Ytnlmkfncdklcdaa
