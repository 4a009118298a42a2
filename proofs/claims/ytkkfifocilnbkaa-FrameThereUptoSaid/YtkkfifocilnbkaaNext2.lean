/-
  frame.Parser.Next at fewer than seven octets; Next at all.
-/
import Derived.Test.YtkkfifocilnbkaaNext
namespace Go.Proofs.Ytkkfifocilnbkaa
open Go.RowKit

set_option maxHeartbeats 1000000 in
theorem nextShort (mx : Int) (w : World) (F : Nat → Prop) (p : Nat) (bs : List UInt8) (h : PAt w F p bs mx) (h0 : 0 < bs.length) (h7 : bs.length < 7) (hk : knownB ((bs.headD 0).toNat : Int) = true) :
    Calls Try.prog 17 #[.pointer (some ⟨p, 0, none⟩)] w (NextPost w F p mx (.not 0 bs)) := by
  have HH := Lib.hid h
  refine Calls.mono (R := fun e w' => e = .returned (.tuple #[.agg #[.int .i64 0, .int .i64 0, .slice none 0 0], .bool false, .int .i64 0]) ∧ Kept noneS w w') ?_ (fun e w' q => NextPost.not HH.out q.1 q.2)
  obtain ⟨hp, A, n, c, hb, hs⟩ := h
  obtain ⟨g, o, hA, hF, hcell⟩ := RB.at_ hs.rb h0
  have hn := hs.len
  rw [Nat.add_zero] at hcell
  have hb0 : bs[0] = bs.headD 0 := by cases bs with | nil => simp at h0 | cons x l => rfl
  rw [hb0] at hcell
  generalize bs.headD 0 = b0 at hk hcell hb0
  have c0 : w.cell? ⟨p, 0, none⟩ = some (.slice (some ⟨g, o, none⟩) n c) := by rw [← hA]; exact hb.cell 0
  have hn0 : 0 < n := by omega
  have hn7 : (n : Int) < 7 := by omega
  have KA : Kept noneS w (w.alloc (.cells #[.int .i64 0, .int .i64 0, .slice none 0 0] 25)) := (Kept.refl _ _).alloc _
  have BF := Blk.new w 25 #[.int .i64 0, .int .i64 0, .slice none 0 0]
  have d0 : (w.alloc (.cells #[.int .i64 0, .int .i64 0, .slice none 0 0] 25)).cell? ⟨p, 0, none⟩ = _ := (KA.cell (p := ⟨p, 0, none⟩) hb.lt (fun q => q.elim)).trans c0
  have d1 : (w.alloc (.cells #[.int .i64 0, .int .i64 0, .slice none 0 0] 25)).cell? ⟨g, o, none⟩ = _ := (KA.cell (p := ⟨g, o, none⟩) (lt_of_cell hcell) (fun q => q.elim)).trans hcell
  have q0 : (w.alloc (.cells #[.int .i64 0, .int .i64 0, .slice none 0 0] 25)).cell? ⟨w.heap.size, 0, none⟩ = some (.int .i64 0) := BF.cell 0
  have q1 : (w.alloc (.cells #[.int .i64 0, .int .i64 0, .slice none 0 0] 25)).cell? ⟨w.heap.size, 1, none⟩ = some (.int .i64 0) := BF.cell 1
  have q2 : (w.alloc (.cells #[.int .i64 0, .int .i64 0, .slice none 0 0] 25)).cell? ⟨w.heap.size, 2, none⟩ = some (.slice none 0 0) := BF.cell 2
  have hw8 := wrapB b0
  have f0 := BF.frozen 0
  have f1 := BF.frozen 1
  have f2 := BF.frozen 2
  have HBF := Lib.hid BF
  have HKA := Lib.hid KA
  clear hb hs hcell c0 BF KA hb0 hn h0 hA h7
  go_enter Try.func17, Try.ntmps17
  go_upto_region 1 with (fail)
  generalize w.alloc (.cells #[.int .i64 0, .int .i64 0, .slice none 0 0] 25) = wa at d0 d1 q0 q1 q2 f0 f1 f2 HBF HKA ⊢
  generalize hq : w.heap.size = q at q0 q1 q2 f0 f1 f2 HBF ⊢
  have HQ := Lib.hid hq
  clear hq
  go_wp2_with (go_at_call 24; refine (frameKnown _ _).mono ?_; rw [hk]; rintro e w' ⟨rfl, rfl⟩)
  refine bodyPost_ret (results_cell_tmp2 rfl _ _ q 25 _ _ _ rfl (((HBF.out.set_ 0 _).set_ 1 _).set_ 2 _) Try.underlying25 rfl frow_info) rfl ?_
  exact ⟨rfl, kept3 (by have := HQ.out; omega) _ _ _ HKA.out⟩

set_option maxHeartbeats 1000000 in
theorem nextEmpty (mx : Int) (w : World) (F : Nat → Prop) (p : Nat) (h : PAt w F p [] mx) :
    Calls Try.prog 17 #[.pointer (some ⟨p, 0, none⟩)] w (NextPost w F p mx (.not 0 [])) := by
  have HH := Lib.hid h
  refine Calls.mono (R := fun e w' => e = .returned (.tuple #[.agg #[.int .i64 0, .int .i64 0, .slice none 0 0], .bool false, .int .i64 0]) ∧ Kept noneS w w') ?_ (fun e w' q => NextPost.not HH.out q.1 q.2)
  obtain ⟨hp, A, n, c, hb, hs⟩ := h
  obtain rfl : n = 0 := hs.len
  have c0 : w.cell? ⟨p, 0, none⟩ = some (.slice A 0 c) := hb.cell 0
  have KA : Kept noneS w (w.alloc (.cells #[.int .i64 0, .int .i64 0, .slice none 0 0] 25)) := (Kept.refl _ _).alloc _
  have BF := Blk.new w 25 #[.int .i64 0, .int .i64 0, .slice none 0 0]
  have d0 : (w.alloc (.cells #[.int .i64 0, .int .i64 0, .slice none 0 0] 25)).cell? ⟨p, 0, none⟩ = _ := (KA.cell (p := ⟨p, 0, none⟩) hb.lt (fun q => q.elim)).trans c0
  have q0 : (w.alloc (.cells #[.int .i64 0, .int .i64 0, .slice none 0 0] 25)).cell? ⟨w.heap.size, 0, none⟩ = some (.int .i64 0) := BF.cell 0
  have q1 : (w.alloc (.cells #[.int .i64 0, .int .i64 0, .slice none 0 0] 25)).cell? ⟨w.heap.size, 1, none⟩ = some (.int .i64 0) := BF.cell 1
  have q2 : (w.alloc (.cells #[.int .i64 0, .int .i64 0, .slice none 0 0] 25)).cell? ⟨w.heap.size, 2, none⟩ = some (.slice none 0 0) := BF.cell 2
  have f0 := BF.frozen 0
  have f1 := BF.frozen 1
  have f2 := BF.frozen 2
  have HBF := Lib.hid BF
  have HKA := Lib.hid KA
  clear hb hs c0 BF KA
  go_enter Try.func17, Try.ntmps17
  go_upto_region 1 with (fail)
  generalize w.alloc (.cells #[.int .i64 0, .int .i64 0, .slice none 0 0] 25) = wa at d0 q0 q1 q2 f0 f1 f2 HBF HKA ⊢
  generalize hq : w.heap.size = q at q0 q1 q2 f0 f1 f2 HBF ⊢
  have HQ := Lib.hid hq
  clear hq
  go_wp2
  refine bodyPost_ret (results_cell_tmp2 rfl _ _ q 25 _ _ _ rfl (((HBF.out.set_ 0 _).set_ 1 _).set_ 2 _) Try.underlying25 rfl frow_info) rfl ?_
  exact ⟨rfl, kept3 (by have := HQ.out; omega) _ _ _ HKA.out⟩

theorem nextAny (mx : Int) (hm1 : -9223372036854775808 ≤ mx) (hm2 : mx ≤ 9223372036854775807) (w : World) (F : Nat → Prop) (p : Nat) (bs : List UInt8) (h : PAt w F p bs mx) (hbl : bs.length ≤ 140737488355328) :
    Calls Try.prog 17 #[.pointer (some ⟨p, 0, none⟩)] w (NextPost w F p mx (nextOf bs mx)) := by
  rcases Nat.eq_zero_or_pos bs.length with h0 | h0
  · have : bs = [] := List.length_eq_zero_iff.1 h0
    subst this
    rw [show nextOf [] mx = .not 0 [] from rfl]
    exact nextEmpty mx w F p h
  · rcases hk : knownB ((bs.headD 0).toNat : Int) with _ | _
    · rw [show nextOf bs mx = .not 40 bs from by unfold nextOf; rw [if_pos ⟨h0, hk⟩]]
      exact nextUnknown mx w F p bs h h0 hk
    · by_cases h7 : bs.length < 7
      · rw [show nextOf bs mx = .not 0 bs from by unfold nextOf; rw [if_neg (by rw [hk]; simp), if_pos h7]]
        exact nextShort mx w F p bs h h0 h7 hk
      · exact nextKnown mx hm1 hm2 w F p bs h (by omega) hbl hk

end Go.Proofs.Ytkkfifocilnbkaa
