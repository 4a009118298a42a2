/-
  spoil; what the script of BookPlays keeps.
-/
import Derived.Test.YtchpkonlfjbkeaaBookRef5
import Derived.Deep.RegionHeld3
namespace Go.Proofs.Ytchpkonlfjbkeaa
open Go.RowKit

def bad : Slip := ⟨-9, .empty, 0, 0, false⟩

theorem set_bad (l : List Slip) (j : Nat) (hj : j < l.length) : ((l.take j).map (fun _ => bad) ++ l.drop j).set j bad = (l.take (j + 1)).map (fun _ => bad) ++ l.drop (j + 1) := part_set (fun _ => bad) l j hj

set_option maxHeartbeats 800000 in
theorem spoil_ok (A : Option Addr) (c : Nat) (l : List Slip) (G : Nat → Prop) (w : World) (ho : Own w 29 5 G (.slice A l.length c) l.length (slipRow l)) (hG : ∀ j, w.heap.size ≤ j → G j) (hl : (l.length + 3) * 48 ≤ 140737488355328) :
    Calls Try.prog 19 #[.slice A l.length c] w fun e w' => e = .returned (.tuple #[]) ∧ Kept G w w' := by
  have HO := Lib.hid ho
  have HG := Lib.hid hG
  clear ho hG
  go_enter Try.func19, Try.ntmps19
  go_wp2
  go_loopw [6] (fun i wr => ∃ j : Nat, j ≤ l.length ∧ i = .int .i64 j ∧ Own wr 29 5 G (.slice A l.length c) l.length (slipRow ((l.take j).map (fun _ => bad) ++ l.drop j)) ∧ Kept G w wr) (fun i _ => l.length - (intOf i).toNat)
  case atStart => exact ⟨0, Nat.zero_le _, rfl, by simpa using HO.out, Kept.refl _ _⟩
  case round =>
    obtain ⟨j, hj, rfl, ho1, hk1⟩ := hrel
    have O1 := Lib.hid ho1
    have K1 := Lib.hid hk1
    clear ho1 hk1
    by_cases hlt : j < l.length
    · have hlen := part_len (fun _ => bad) l j hj
      obtain ⟨g, rfl, hg, hcells, hst⟩ := Own.slip O1.out hlen hlt bad
      rw [set_bad l j hlt] at hst
      have HSt := Lib.hid hst
      have HGg := Lib.hid (O1.out.2 g hg)
      obtain ⟨u0, x0⟩ := Option.isSome_iff_exists.1 (hcells 0 (by decide)).1
      obtain ⟨u1, x1⟩ := Option.isSome_iff_exists.1 (hcells 1 (by decide)).1
      obtain ⟨u2, x2⟩ := Option.isSome_iff_exists.1 (hcells 2 (by decide)).1
      obtain ⟨u3, x3⟩ := Option.isSome_iff_exists.1 (hcells 3 (by decide)).1
      obtain ⟨u4, x4⟩ := Option.isSome_iff_exists.1 (hcells 4 (by decide)).1
      have y0 := (hcells 0 (by decide)).2
      have y1 := (hcells 1 (by decide)).2
      have y2 := (hcells 2 (by decide)).2
      have y3 := (hcells 3 (by decide)).2
      have y4 := (hcells 4 (by decide)).2
      simp only [Nat.add_zero] at x0 y0
      clear hcells hst hlen hg
      go_wp2
      go_roundw
      case rel => exact ⟨j + 1, by omega, by go_num, HSt.out, ((((K1.out.setCell (p := ⟨g, j * 5, none⟩) (fun _ => HGg.out) _).setCell (p := ⟨g, j * 5 + 1, none⟩) (fun _ => HGg.out) _).setCell (p := ⟨g, j * 5 + 2, none⟩) (fun _ => HGg.out) _).setCell (p := ⟨g, j * 5 + 3, none⟩) (fun _ => HGg.out) _).setCell (p := ⟨g, j * 5 + 4, none⟩) (fun _ => HGg.out) _⟩
      case measure => simp [intOf]; omega
    · obtain rfl : j = l.length := by omega
      obtain ⟨w2, rfl⟩ : ∃ w2 : World, w2 = wr := ⟨_, rfl⟩
      have O2 := Lib.hid O1.out
      rw [List.take_length, List.drop_length, List.append_nil] at O2
      have hml : (l.map (fun _ => bad)).length = l.length := List.length_map _
      clear O1
      go_wp2
      go_loopw [0, 3] (fun v k wr => ∃ (i : Nat) (r : List Slip), i ≤ 3 ∧ k = .int .i64 i ∧ r.length ≤ l.length + i ∧ Own wr 29 5 G v r.length (slipRow r) ∧ Kept G w wr) (fun _ k _ => 3 - (intOf k).toNat)
      case atStart => exact ⟨0, l.map (fun _ => bad), by omega, rfl, by simp, by rw [hml]; exact O2.out, K1.out⟩
      case round =>
        obtain ⟨i, r, hi, rfl, hrl, ho3, hk3⟩ := hrel
        obtain ⟨A3, c3, rfl, _⟩ := Own.form ho3
        have O3 := Lib.hid ho3
        have K3 := Lib.hid hk3
        have hsz := hk3.size
        clear ho3 hk3 hml
        by_cases hlt3 : i < 3
        · go_wp2_with (at_builtin; refine wpList_appSl rfl (.tmp 18) (.tmp 20) rfl G (.slice A3 r.length c3) r rfl (Own.alloc O3.out _) wr.heap.size bad rfl (cells_new wr bad _) (by omega) (HG.out _ (by simp; omega)) ?_; intro A4 c4 w4 hown4 hk4; have HO4 := Lib.hid hown4; have HK4 := Lib.hid hk4; clear hown4 hk4)
          go_roundw
          case rel => exact ⟨i + 1, r ++ [bad], by omega, by go_num, by simp; omega, by rw [List.length_append]; exact HO4.out, (K3.out.alloc _).trans2 HK4.out (fun i _ h => O3.out.2 i h)⟩
          case measure => simp [intOf]; omega
        · go_wp2
          go_end0
          exact ⟨rfl, K3.out⟩

/-- The book at p and the document's at m hold the same slips and the same last tag; neither has a block of Z. -/
def PlayAt (w0 : World) (Z : Nat → Prop) (W : World) (p m : Nat) (l : List Slip) (n : Int) : Prop :=
  ∃ FB FM : Nat → Prop, (∀ k, FB k → FM k → False) ∧ (∀ k, FB k → w0.heap.size ≤ k ∧ k < W.heap.size ∧ ¬ Z k) ∧ (∀ k, FM k → w0.heap.size ≤ k ∧ k < W.heap.size ∧ ¬ Z k) ∧ BookAt W FB p l n ∧ RefAt W FM m l n ∧ Kept noneS w0 W

theorem PlayAt.away {w0 W W' : World} {Z Z' : Nat → Prop} {p m : Nat} {l : List Slip} {n : Int} {S : Nat → Prop} (h : PlayAt w0 Z W p m l n) (hk : Kept S W W') (hS : ∀ k, S k → W.heap.size ≤ k) (hZ : ∀ k, Z' k → Z k ∨ W.heap.size ≤ k) : PlayAt w0 Z' W' p m l n := by
  obtain ⟨FB, FM, h1, h2, h3, h4, h5, h6⟩ := h
  have hz := hk.size
  have hz6 := h6.size
  refine ⟨FB, FM, h1, fun k q => ?_, fun k q => ?_, h4.keep hk (fun k a _ b => ?_), h5.keep hk (fun k a _ b => ?_), h6.trans2 hk (fun k a b => ?_)⟩
  · obtain ⟨a, b, c⟩ := h2 k q
    refine ⟨a, by omega, fun z => ?_⟩
    rcases hZ k z with z | z
    · exact c z
    · omega
  · obtain ⟨a, b, c⟩ := h3 k q
    refine ⟨a, by omega, fun z => ?_⟩
    rcases hZ k z with z | z
    · exact c z
    · omega
  · have := hS k b; omega
  · have := hS k b; omega
  · have := hS k b; omega
theorem PlayAt.still {w0 W W' : World} {Z : Nat → Prop} {p m : Nat} {l : List Slip} {n : Int} (h : PlayAt w0 Z W p m l n) (hk : Kept noneS W W') : PlayAt w0 Z W' p m l n := h.away hk (fun _ q => q.elim) fun _ q => .inl q

/-- Behind a call on the book, then one on the document's. -/
theorem PlayAt.both {w0 W W1 W2 : World} {Z : Nat → Prop} {p m : Nat} {l' : List Slip} {n' : Int} {FB FM : Nat → Prop} (h1 : ∀ k, FB k → FM k → False) (h2 : ∀ k, FB k → w0.heap.size ≤ k ∧ k < W.heap.size ∧ ¬ Z k) (h3 : ∀ k, FM k → w0.heap.size ≤ k ∧ k < W.heap.size ∧ ¬ Z k) (h6 : Kept noneS w0 W) (hZ : ∀ k, Z k → k < W.heap.size)
    (hb : BookAt W1 (fun k => FB k ∨ W.heap.size ≤ k) p l' n') (kb : Kept (fun k => FB k ∨ W.heap.size ≤ k) W W1) (hm : RefAt W2 (fun k => FM k ∨ W1.heap.size ≤ k) m l' n') (km : Kept (fun k => FM k ∨ W1.heap.size ≤ k) W1 W2) : PlayAt w0 Z W2 p m l' n' ∧ Kept (fun k => ¬ Z k) W W2 := by
  have z0 := h6.size
  have z1 := kb.size
  have z2 := km.size
  refine ⟨⟨fun k => (FB k ∨ W.heap.size ≤ k) ∧ k < W1.heap.size, fun k => (FM k ∨ W1.heap.size ≤ k) ∧ k < W2.heap.size, ?_, ?_, ?_, (hb.tight).keep km ?_, hm.mono fun k a b => ⟨b, a⟩, ?_⟩, ?_⟩
  · rintro k ⟨a | a, a1⟩ ⟨b | b, b1⟩
    · exact h1 k a b
    · have := h2 k a; omega
    · have := h3 k b; omega
    · omega
  · rintro k ⟨a | a, a1⟩
    · have := h2 k a
      exact ⟨by omega, by omega, this.2.2⟩
    · exact ⟨by omega, by omega, fun z => by have := hZ k z; omega⟩
  · rintro k ⟨a | a, a1⟩
    · have := h3 k a
      exact ⟨by omega, by omega, this.2.2⟩
    · exact ⟨by omega, by omega, fun z => by have := hZ k z; omega⟩
  · rintro k a ⟨b | b, b1⟩ (c | c)
    · exact h1 k b c
    · omega
    · have := h3 k c; omega
    · omega
  · refine (h6.trans2 kb (fun k a b => ?_)).trans2 km (fun k a b => ?_)
    · rcases b with b | b
      · have := h2 k b; omega
      · omega
    · rcases b with b | b
      · have := h3 k b; omega
      · omega
  · refine (kb.mono (S' := fun k => ¬ Z k) (fun k a b => ?_)).trans2 km (fun k a b => ?_)
    · rcases b with b | b
      · exact (h2 k b).2.2
      · omega
    · rcases b with b | b
      · exact (h3 k b).2.2
      · omega

/-- Behind a call that takes slips out of the book, the like on the document's, and what was done to the slips that came out. -/
theorem PlayAt.took {w0 W W1 W2 W4 : World} {Z : Nat → Prop} {p m : Nat} {l' : List Slip} {n' : Int} {FB FM : Nat → Prop} (h1 : ∀ k, FB k → FM k → False) (h2 : ∀ k, FB k → w0.heap.size ≤ k ∧ k < W.heap.size ∧ ¬ Z k) (h3 : ∀ k, FM k → w0.heap.size ≤ k ∧ k < W.heap.size ∧ ¬ Z k) (h6 : Kept noneS w0 W) (hZ : ∀ k, Z k → k < W.heap.size)
    (hb : BookAt W1 FB p l' n') (kb : Kept FB W W1) (hm : RefAt W2 (fun k => FM k ∨ W1.heap.size ≤ k) m l' n') (km : Kept (fun k => FM k ∨ W1.heap.size ≤ k) W1 W2) (k4 : Kept (fun k => (W.heap.size ≤ k ∧ k < W1.heap.size) ∨ W2.heap.size ≤ k) W2 W4) : PlayAt w0 Z W4 p m l' n' ∧ Kept (fun k => ¬ Z k) W W4 := by
  have z0 := h6.size
  have z1 := kb.size
  have z2 := km.size
  have z4 := k4.size
  refine ⟨⟨FB, fun k => (FM k ∨ W1.heap.size ≤ k) ∧ k < W2.heap.size, ?_, ?_, ?_, (hb.keep km ?_).keep k4 ?_, (hm.mono fun k a b => ⟨b, a⟩).keep k4 ?_, ?_⟩, ?_⟩
  · rintro k a ⟨b | b, b1⟩
    · exact h1 k a b
    · have := h2 k a; omega
  · intro k a
    have := h2 k a
    exact ⟨by omega, by omega, this.2.2⟩
  · rintro k ⟨a | a, a1⟩
    · have := h3 k a
      exact ⟨by omega, by omega, this.2.2⟩
    · exact ⟨by omega, by omega, fun z => by have := hZ k z; omega⟩
  · rintro k a b (c | c)
    · exact h1 k b c
    · omega
  · rintro k a b (c | c)
    · have := h2 k b; omega
    · omega
  · rintro k a ⟨b | b, b1⟩ (c | c)
    · have := h3 k b; omega
    · omega
    · omega
    · omega
  · refine ((h6.trans2 kb (fun k a b => ?_)).trans2 km (fun k a b => ?_)).trans2 k4 (fun k a b => ?_)
    · have := h2 k b; omega
    · rcases b with b | b
      · have := h3 k b; omega
      · omega
    · rcases b with b | b
      · omega
      · omega
  · refine ((kb.mono (S' := fun k => ¬ Z k) (fun k a b => (h2 k b).2.2)).trans2 km (fun k a b => ?_)).trans2 k4 (fun k a b => ?_)
    · rcases b with b | b
      · exact (h3 k b).2.2
      · omega
    · rcases b with b | b
      · omega
      · omega

end Go.Proofs.Ytchpkonlfjbkeaa
