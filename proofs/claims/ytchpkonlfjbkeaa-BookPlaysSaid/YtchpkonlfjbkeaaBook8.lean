/-
  warrenlaw20's speaks.
-/
import Derived.Test.YtchpkonlfjbkeaaBook7
namespace Go.Proofs.Ytchpkonlfjbkeaa
open Go.RowKit

theorem BookAt.mono {w : World} {F G : Nat → Prop} {p : Nat} {l : List Slip} {last : Int} (h : BookAt w F p l last) (hG : ∀ k, k < w.heap.size → F k → G k) : BookAt w G p l last := by
  obtain ⟨sv, h1, h2, h3⟩ := h
  exact ⟨sv, h1, h2.mono hG, hG p h1.lt h3⟩
theorem BookAt.tight {w : World} {F : Nat → Prop} {p : Nat} {l : List Slip} {last : Int} (h : BookAt w F p l last) : BookAt w (fun k => F k ∧ k < w.heap.size) p l last := h.mono fun _ h1 h2 => ⟨h2, h1⟩

def sp1 : Slip := ⟨1, ⟨#[113]⟩, 1, 0, false⟩
def sp2 : Slip := ⟨2, ⟨#[113]⟩, 2, 7, false⟩
def sp3 : Slip := ⟨3, ⟨#[114]⟩, 1, 7, false⟩

set_option maxHeartbeats 1600000 in
set_option maxRecDepth 100000 in
theorem speaks_ok (w : World) : Calls Try.prog 6 #[] w fun e w' => e = .returned (.bool true) ∧ Kept noneS w w' := by
  go_enter Try.func6, Try.ntmps6
  go_wp2_with fail
  refine (bookNew w).mono ?_
  rintro e w1 ⟨rfl, h1, k1⟩
  have H1 := Lib.hid h1
  have K1 := Lib.hid (k1.mono (S' := (w.heap.size ≤ ·)) fun _ _ q => q.elim)
  have s1 := k1.size
  clear h1 k1
  generalize hp : w.heap.size = p at H1 s1 K1 ⊢
  have HP := Lib.hid hp
  clear hp
  go_wp2_with fail
  refine (bookGive ⟨#[113]⟩ 1 0 w1 (p ≤ ·) p [] 0 H1.out (fun j h => Nat.le_trans s1 h) (by omega) (by omega) (by decide)).mono ?_
  rintro e w2 ⟨rfl, h2, k2⟩
  have H2 : Hid (BookAt w2 (p ≤ ·) p [sp1] 1) := Lib.hid h2
  have K2 := Lib.hid (K1.out.trans2 k2 (fun _ _ h => h))
  have s2 := Nat.le_trans s1 k2.size
  clear h2 k2 H1 K1
  go_wp2_with fail
  refine (bookGive ⟨#[113]⟩ 2 7 w2 (p ≤ ·) p [sp1] 1 H2.out (fun j h => Nat.le_trans s2 h) (by omega) (by omega) (by decide)).mono ?_
  rintro e w3 ⟨rfl, h3, k3⟩
  have H3 : Hid (BookAt w3 (p ≤ ·) p [sp1, sp2] 2) := Lib.hid h3
  have K3 := Lib.hid (K2.out.trans2 k3 (fun _ _ h => h))
  have s3 := Nat.le_trans s2 k3.size
  clear h3 k3 H2 K2
  go_wp2_with fail
  refine (bookGive ⟨#[114]⟩ 1 7 w3 (p ≤ ·) p [sp1, sp2] 2 H3.out (fun j h => Nat.le_trans s3 h) (by omega) (by omega) (by decide)).mono ?_
  rintro e w4 ⟨rfl, h4, k4⟩
  have H4 : Hid (BookAt w4 (fun k => p ≤ k ∧ k < w4.heap.size) p [sp1, sp2, sp3] 3) := Lib.hid (BookAt.tight h4)
  have K4 := Lib.hid (K3.out.trans2 k4 (fun _ _ h => h))
  have s4 := Nat.le_trans s3 k4.size
  clear h4 k4 H3 K3
  go_wp2_with fail
  refine (bookAck 2 true false w4 _ p [sp1, sp2, sp3] 3 H4.out (by decide)).mono ?_
  rw [show ackOut [sp1, sp2, sp3] 2 true false = [sp1, sp2] from by decide, show ackRest [sp1, sp2, sp3] 2 true false = [sp3] from by decide, show ackOk [sp1, sp2, sp3] 2 true = true from by decide]
  rintro e w5 ⟨A5, c5, rfl, o5, h5, k5⟩
  have X5 := Lib.hid o5
  have H5 := Lib.hid h5
  have K5 := Lib.hid (K4.out.trans2 k5 (fun _ _ h => h.1))
  have s5 := k5.size
  clear o5 h5 k5 H4 K4
  go_wp2_with fail
  refine (bookAck 2 false false w5 _ p [sp3] 3 H5.out (by decide)).mono ?_
  rw [show ackOut [sp3] 2 false false = [] from by decide, show ackRest [sp3] 2 false false = [sp3] from by decide, show ackOk [sp3] 2 false = false from by decide]
  rintro e w6 ⟨A6, c6, rfl, o6, h6, k6⟩
  have X6 := Lib.hid (X5.out.keep0 k6 (fun k _ h1 h2 => by have := X5.out.2 k h1; omega))
  have H6 := Lib.hid h6
  have K6 := Lib.hid (K5.out.trans2 k6 (fun _ _ h => h.1))
  have s6 := Nat.le_trans s5 k6.size
  clear o6 h6 k6 H5 K5 X5
  go_wp2_with fail
  refine (bookAck 0 true true w6 _ p [sp3] 3 H6.out (by decide)).mono ?_
  rw [show ackOut [sp3] 0 true true = [sp3.hold true] from by decide, show ackRest [sp3] 0 true true = [sp3.hold true] from by decide, show ackOk [sp3] 0 true = true from by decide]
  rintro e w7 ⟨A7, c7, rfl, o7, h7, k7⟩
  have X7 := Lib.hid (X6.out.keep0 k7 (fun k _ h1 h2 => by have := X6.out.2 k h1; omega))
  have Y7 := Lib.hid o7
  have H7 := Lib.hid h7
  have K7 := Lib.hid (K6.out.trans2 k7 (fun _ _ h => h.1))
  have s7 := Nat.le_trans s6 k7.size
  clear o7 h7 k7 H6 K6 X6
  obtain ⟨gx, rfl, _, _, _, x2, _⟩ := Own.held X7.out rfl (i := 1) (by decide)
  obtain ⟨gy, rfl, _, _, _, _, _, y4, _⟩ := Own.held Y7.out rfl (i := 0) (by decide)
  have x2' : w7.cell? ⟨gx, 7, none⟩ = some (.int .i64 2) := x2
  have y4' : w7.cell? ⟨gy, 4, none⟩ = some (.bool true) := y4
  clear x2 y4
  simp only [List.length_cons, List.length_nil]
  go_wp2_with fail
  refine (bookCount 7 w7 _ p _ 3 H7.out (by decide)).mono ?_
  rw [show (List.countP (fun s : Slip => (7 : Int) == 0 || s.cons == 7) [sp3.hold true]) = 1 from by decide]
  rintro e w8 ⟨rfl, k8⟩
  have H8 := Lib.hid (H7.out.still k8)
  have K8 := Lib.hid (K7.out.trans2 k8 (fun _ _ h => h.elim))
  clear k8 H7 K7 x2' y4'
  go_wp2_with fail
  refine (bookCommit w8 _ p _ 3 H8.out (by decide)).mono ?_
  rw [show List.filter Slip.held [sp3.hold true] = [sp3.hold true] from by decide, show List.filter (fun s => !s.held) [sp3.hold true] = [] from by decide]
  rintro e w9 ⟨A9, c9, rfl, o9, h9, k9⟩
  have H9 := Lib.hid h9
  have K9 := Lib.hid (K8.out.trans2 k9 (fun _ _ h => h.1))
  clear o9 h9 k9 H8 K8
  simp only [List.length_cons, List.length_nil]
  go_wp2_with fail
  refine (bookNext w9 _ p _ 3 H9.out (by decide) (by decide)).mono ?_
  rintro e w10 ⟨rfl, h10, k10⟩
  have K10 := Lib.hid (K9.out.trans2 k10 (fun _ _ h => by omega))
  clear h10 k10
  go_wp2
  go_ret
  exact ⟨rfl, K10.out.mono (fun i h1 h2 => by have := HP.out; exact absurd h1 (by omega))⟩

end Go.Proofs.Ytchpkonlfjbkeaa
