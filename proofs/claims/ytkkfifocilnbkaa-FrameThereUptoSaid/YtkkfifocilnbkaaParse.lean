/-
  frame.Parser: a row of octets that waits, and a limit.
-/
import Derived.Test.YtkkfifocilnbkaaSeg
namespace Go.Proofs.Ytkkfifocilnbkaa
open Go.RowKit

/-- The Parser at p: its octets, its limit; all its blocks are of F. -/
def PAt (w : World) (F : Nat → Prop) (p : Nat) (bs : List UInt8) (mx : Int) : Prop :=
  F p ∧ ∃ A n c, Blk w p 67 #[.slice A n c, .int .i64 mx] ∧ Seg w F A n c bs

theorem PAt.keep {w w' : World} {F S : Nat → Prop} {p : Nat} {bs : List UInt8} {mx : Int} (h : PAt w F p bs mx) (hk : Kept S w w') (hd : ∀ k, k < w.heap.size → F k → S k → False) : PAt w' F p bs mx := by
  obtain ⟨hp, A, n, c, hb, hs⟩ := h
  exact ⟨hp, A, n, c, hb.keep hk (fun q => hd p hb.lt hp q), hs.keep hk hd⟩

theorem newParser (mx : Int) (w : World) : Calls Try.prog 14 #[.int .i64 mx] w fun e w' => e = .returned (.pointer (some ⟨w.heap.size, 0, none⟩)) ∧ PAt w' (w.heap.size ≤ ·) w.heap.size [] mx ∧ w.heap.size < w'.heap.size ∧ Kept noneS w w' := by
  go_enter Try.func14, Try.ntmps14
  go_wp2
  go_ret
  exact ⟨rfl, ⟨Nat.le_refl _, none, 0, 0, Blk.new _ _ _, Seg.nil _ _⟩, by simp, (Kept.refl _ _).alloc _⟩

theorem parserLimit (x mx : Int) (w : World) (F : Nat → Prop) (p : Nat) (bs : List UInt8) (h : PAt w F p bs mx) : Calls Try.prog 20 #[.pointer (some ⟨p, 0, none⟩), .int .i64 x] w fun e w' => (∃ v, e = .returned v) ∧ PAt w' F p bs x ∧ Kept F w w' := by
  obtain ⟨hp, A, n, c, hb, hs⟩ := h
  have c1 := hb.cell 1
  have f1 := hb.frozen 1
  have HB := Lib.hid hb
  have HS := Lib.hid hs
  clear hb hs
  simp at c1
  go_enter Try.func20, Try.ntmps20
  go_wp2
  go_end0
  refine ⟨⟨_, rfl⟩, ⟨hp, A, n, c, HB.out.set_ 1 _, ?_⟩, (Kept.refl F w).setCell (fun _ => hp) _⟩
  refine ⟨HS.out.1, ?_⟩
  rcases HS.out.2 with h | ⟨g, o, cur, hA, hF, hbg, h⟩
  · exact .inl h
  · exact .inr ⟨g, o, cur, hA, hF, hbg.far (p := ⟨p, 1, none⟩) (fun e => (HB.out.ne_ hbg (by decide)) e.symm) _, h⟩

theorem parserLeft (mx : Int) (w : World) (F : Nat → Prop) (p : Nat) (bs : List UInt8) (h : PAt w F p bs mx) : Calls Try.prog 18 #[.pointer (some ⟨p, 0, none⟩)] w fun e w' => e = .returned (.int .i64 bs.length) ∧ w = w' := by
  obtain ⟨hp, A, n, c, hb, hs⟩ := h
  have c0 : w.cell? ⟨p, 0, none⟩ = some (.slice A n c) := hb.cell 0
  rw [← hs.len]
  clear hb hs
  go_enter Try.func18, Try.ntmps18
  go_wp2
  go_ret
  exact ⟨rfl, rfl⟩

attribute [local go_sem ↓] append_as

theorem parserFeed (mx : Int) (w : World) (F G : Nat → Prop) (p : Nat) (bs xs : List UInt8) (h : PAt w F p bs mx) (A : Option Addr) (m d : Nat) (hm : xs.length = m) (hx : RB w G A xs) (hl : bs.length + xs.length ≤ 140737488355328) (hF : F w.heap.size) :
    Calls Try.prog 15 #[.pointer (some ⟨p, 0, none⟩), .slice A m d] w fun e w' => (∃ v, e = .returned v) ∧ PAt w' F p (bs ++ xs) mx ∧ Kept F w w' := by
  subst hm
  obtain ⟨hp, A0, n, c, hb, hs⟩ := h
  have c0 : w.cell? ⟨p, 0, none⟩ = some (.slice A0 n c) := hb.cell 0
  obtain ⟨A1, c1, w1, hrun, hs1, k1⟩ := hs.append hx hl hF d
  have hne : ¬ segS A0 p := by
    rintro ⟨o, rfl⟩
    rcases hs.2 with ⟨e, _⟩ | ⟨g, o', cur, e, _, hbg, _⟩
    · cases e
    · injection e with e
      injection e with e1 e2
      subst e1
      exact (hb.ne_ hbg (by decide)) rfl
  have b1 := hb.keep k1 hne
  have d1 : w1.cell? ⟨p, 0, none⟩ = some (.slice A0 n c) := b1.cell 0
  have f1 : w1.frozen? ⟨p, 0, none⟩ = false := b1.frozen 0
  have kk : Kept F w w1 := k1.mono (fun k _ q => (hs.segS_lt q).1)
  have HB := Lib.hid b1
  have HS := Lib.hid hs1
  have HK := Lib.hid kk
  clear hb hs hs1 b1 k1 hne kk hx
  go_enter Try.func15, Try.ntmps15
  go_wp2
  go_end0
  refine ⟨⟨_, rfl⟩, ⟨hp, A1, _, c1, HB.out.set_ 0 _, ?_⟩, HK.out.setCell (fun _ => hp) _⟩
  refine ⟨HS.out.1, ?_⟩
  rcases HS.out.2 with h | ⟨g, o, cur, hA, hF, hbg, h⟩
  · exact .inl h
  · exact .inr ⟨g, o, cur, hA, hF, hbg.far (p := ⟨p, 0, none⟩) (fun e => (HB.out.ne_ hbg (by decide)) e.symm) _, h⟩

end Go.Proofs.Ytkkfifocilnbkaa
