/-
  Contracts of octet.Writer's methods, in plain words.
-/
import Derived.Test.YtepligggofbegaaOctS
import Derived.Test.YtepligggofbegaaStr
import Derived.StillTailTactics
namespace Go.Proofs.Ytepligggofbegaa
open Go.RowKit

/-- How many bits of the last octet a Writer has. -/
def rowBits (row : Nat) : Nat := if row = 0 then 0 else (row - 1) % 8 + 1
/-- A Writer at block p. -/
def WSAt (w : World) (F : Nat → Prop) (p : Nat) (s : WS) : Prop := WrAt w F p s.bs (rowBits s.row : Nat) ∧ s.ok
theorem WSAt.keep {w w' : World} {F S : Nat → Prop} {p : Nat} {s : WS} (h : WSAt w F p s) (hk : Kept S w w') (hd : ∀ k, k < w.heap.size → F k → S k → False) : WSAt w' F p s := ⟨h.1.keep hk hd, h.2⟩
theorem WSAt.still {w w' : World} {F : Nat → Prop} {p : Nat} {s : WS} (h : WSAt w F p s) (hk : Kept noneS w w') : WSAt w' F p s := h.keep hk fun _ _ _ q => q.elim
theorem WrAt.mono {w : World} {F G : Nat → Prop} {p : Nat} {bs : List UInt8} {bits : Int} (h : WrAt w F p bs bits) (hG : ∀ k, k < w.heap.size → F k → G k) : WrAt w G p bs bits := by
  obtain ⟨sv, h1, h2, h3⟩ := h
  exact ⟨sv, h1, Own.mono h2 hG, hG p h1.lt h3⟩
theorem WSAt.mono {w : World} {F G : Nat → Prop} {p : Nat} {s : WS} (h : WSAt w F p s) (hG : ∀ k, k < w.heap.size → F k → G k) : WSAt w G p s := ⟨h.1.mono hG, h.2⟩

theorem newWS (w : World) : Calls Try.prog 28 #[] w fun e w' => e = .returned (.pointer (some ⟨w.heap.size, 0, none⟩)) ∧ WSAt w' (w.heap.size ≤ ·) w.heap.size ⟨[], 0⟩ ∧ Kept noneS w w' :=
  (newWriter w).mono fun _ _ ⟨h1, h2, h3⟩ => ⟨h1, ⟨h2, fun h => absurd rfl h⟩, h3⟩

set_option maxHeartbeats 400000 in
theorem wsOctet (n : Int) (w : World) (F : Nat → Prop) (p : Nat) (s : WS) (h : WSAt w F p s) (hF : ∀ j, w.heap.size ≤ j → F j) (hn : s.bs.length ≤ 140737488351232)
    (hlo : -9223372036854775808 ≤ n) (hhi : n ≤ 9223372036854775807) :
    Calls Try.prog 31 #[.pointer (some ⟨p, 0, none⟩), .int .i64 n] w fun e w' => e = .returned (.tuple #[]) ∧ WSAt w' F p (s.num 1 n) ∧ Kept F w w' := by
  have HH := Lib.hid h.1
  have HF := Lib.hid hF
  clear h hF
  go_enter Try.func31, Try.ntmps31
  go_wp2_with (go_at_call 50; refine (wNumber 1 (by decide) n _ F p s.bs _ HH.out HF.out hn hlo hhi).mono ?_; rintro e w' ⟨rfl, hq⟩)
  go_end0
  exact ⟨rfl, ⟨hq.1, WS.ok_num _ _ _⟩, hq.2⟩

set_option maxHeartbeats 400000 in
theorem wsShort (n : Int) (w : World) (F : Nat → Prop) (p : Nat) (s : WS) (h : WSAt w F p s) (hF : ∀ j, w.heap.size ≤ j → F j) (hn : s.bs.length ≤ 140737488351232)
    (hlo : -9223372036854775808 ≤ n) (hhi : n ≤ 9223372036854775807) :
    Calls Try.prog 32 #[.pointer (some ⟨p, 0, none⟩), .int .i64 n] w fun e w' => e = .returned (.tuple #[]) ∧ WSAt w' F p (s.num 2 n) ∧ Kept F w w' := by
  have HH := Lib.hid h.1
  have HF := Lib.hid hF
  clear h hF
  go_enter Try.func32, Try.ntmps32
  go_wp2_with (go_at_call 50; refine (wNumber 2 (by decide) n _ F p s.bs _ HH.out HF.out hn hlo hhi).mono ?_; rintro e w' ⟨rfl, hq⟩)
  go_end0
  exact ⟨rfl, ⟨hq.1, WS.ok_num _ _ _⟩, hq.2⟩

set_option maxHeartbeats 400000 in
theorem wsLong (n : Int) (w : World) (F : Nat → Prop) (p : Nat) (s : WS) (h : WSAt w F p s) (hF : ∀ j, w.heap.size ≤ j → F j) (hn : s.bs.length ≤ 140737488351232)
    (hlo : -9223372036854775808 ≤ n) (hhi : n ≤ 9223372036854775807) :
    Calls Try.prog 33 #[.pointer (some ⟨p, 0, none⟩), .int .i64 n] w fun e w' => e = .returned (.tuple #[]) ∧ WSAt w' F p (s.num 4 n) ∧ Kept F w w' := by
  have HH := Lib.hid h.1
  have HF := Lib.hid hF
  clear h hF
  go_enter Try.func33, Try.ntmps33
  go_wp2_with (go_at_call 50; refine (wNumber 4 (by decide) n _ F p s.bs _ HH.out HF.out hn hlo hhi).mono ?_; rintro e w' ⟨rfl, hq⟩)
  go_end0
  exact ⟨rfl, ⟨hq.1, WS.ok_num _ _ _⟩, hq.2⟩

set_option maxHeartbeats 400000 in
theorem wsLongLong (n : Int) (w : World) (F : Nat → Prop) (p : Nat) (s : WS) (h : WSAt w F p s) (hF : ∀ j, w.heap.size ≤ j → F j) (hn : s.bs.length ≤ 140737488351232)
    (hlo : -9223372036854775808 ≤ n) (hhi : n ≤ 9223372036854775807) :
    Calls Try.prog 34 #[.pointer (some ⟨p, 0, none⟩), .int .i64 n] w fun e w' => e = .returned (.tuple #[]) ∧ WSAt w' F p (s.num 8 n) ∧ Kept F w w' := by
  have HH := Lib.hid h.1
  have HF := Lib.hid hF
  clear h hF
  go_enter Try.func34, Try.ntmps34
  go_wp2_with (go_at_call 50; refine (wNumber 8 (by decide) n _ F p s.bs _ HH.out HF.out hn hlo hhi).mono ?_; rintro e w' ⟨rfl, hq⟩)
  go_end0
  exact ⟨rfl, ⟨hq.1, WS.ok_num _ _ _⟩, hq.2⟩

set_option maxHeartbeats 400000 in
theorem wsRaw (A : Option Addr) (c n : Nat) (xs : List UInt8) (hl : xs.length = n) (G : Nat → Prop) (w : World) (F : Nat → Prop) (p : Nat) (s : WS) (h : WSAt w F p s) (hF : ∀ j, w.heap.size ≤ j → F j)
    (hx : RB w G A xs) (hd : ∀ k, F k → G k → False) (hn : s.bs.length + xs.length ≤ 140737488351232) :
    Calls Try.prog 38 #[.pointer (some ⟨p, 0, none⟩), .slice A n c] w fun e w' => e = .returned (.tuple #[]) ∧ WSAt w' F p (s.raw xs) ∧ Kept F w w' := by
  subst hl
  exact (wRaw A c xs G w F p s.bs _ h.1 hF hx hd hn).mono fun _ _ ⟨h1, h2, h3⟩ => ⟨h1, ⟨h2, WS.ok_raw _ _⟩, h3⟩

set_option maxHeartbeats 400000 in
theorem wsLongStr (s : ByteArray) (w : World) (F : Nat → Prop) (p : Nat) (t : WS) (h : WSAt w F p t) (hF : ∀ j, w.heap.size ≤ j → F j) (hn : t.bs.length + s.size ≤ 140737488351000) :
    Calls Try.prog 37 #[.pointer (some ⟨p, 0, none⟩), .string s] w fun e w' => e = .returned (.tuple #[]) ∧ WSAt w' F p (t.long s.data.toList) ∧ Kept F w w' := by
  have HH := Lib.hid h.1
  have HF := Lib.hid hF
  clear h hF
  go_enter Try.func37, Try.ntmps37
  go_wp2_with fail
  refine (wNumber 4 (by decide) s.size w F p t.bs _ HH.out HF.out (by omega) (by omega) (by omega)).mono ?_
  rintro e w1 ⟨rfl, ⟨sv, hblk, hob, hp⟩, hk1⟩
  obtain ⟨A0, cap, rfl, hcap, _⟩ := Own.form hob
  have hlen : (t.bs ++ be 4 s.size).length = t.bs.length + 4 := by simp [be_length]
  have hlen2 : (t.bs ++ be 4 s.size).length ≤ t.bs.length + 4 := by simp [be_length]
  have h0 : w1.cell? ⟨p, 0, none⟩ = some (.slice A0 (t.bs ++ be 4 s.size).length cap) := hblk.cell 0
  have f0 := hblk.frozen 0
  have HB := Lib.hid hblk
  have HO := Lib.hid hob
  have K1 := Lib.hid hk1
  have hz1 := hk1.size
  clear hblk hob hcap hk1
  have HN := Lib.hid (HO.out.ne_blk HB.out (by decide))
  have HL := Lib.hid hlen
  clear hlen
  generalize hbs : t.bs ++ be 4 s.size = bs at HO HB HN h0 HL hlen2
  have HBs := Lib.hid hbs
  clear hbs
  go_wp2_with (at_builtin; refine wpList_appStr rfl (.tmp 12) (.tmp 13) rfl F (.slice A0 bs.length cap) bs rfl HO.out s rfl (by omega) (HF.out _ (by omega)) ?_; intro A1 cap1 w2 hown hk; have hb1 := Blk.keep HB.out hk HN.out; have c1 : w2.cell? ⟨p, 0, none⟩ = some (.slice A0 bs.length cap) := hb1.cell 0; have f1 := hb1.frozen 0; have HB1 := Lib.hid hb1; have HO1 := Lib.hid hown; have HK1 := Lib.hid hk; clear hb1 hown hk)
  go_end0
  have e1 : t.long s.data.toList = ⟨bs ++ s.data.toList, 0⟩ := by unfold WS.long WS.num WS.raw; rw [bytes_size, HBs.out]
  rw [e1]
  refine ⟨rfl, ⟨⟨_, HB1.out.set_ 0 _, ?_, hp⟩, fun h => absurd rfl h⟩, ?_⟩
  · have h2 := HO1.out.far (p := ⟨p, 0, none⟩) (HO1.out.ne_blk HB1.out (by decide)) (.slice A1 (bs.length + s.size) cap1)
    exact h2
  · exact (K1.out.trans2 HK1.out (fun i _ h => (HO.out.2 i h))).setCell (fun _ => hp) _

theorem wsShortStr_long (s : ByteArray) (hs : 255 < s.size) (hs2 : s.size ≤ 9223372036854775807) (w : World) (F : Nat → Prop) (p : Nat) (t : WS) (h : WSAt w F p t) :
    Calls Try.prog 36 #[.pointer (some ⟨p, 0, none⟩), .string s] w fun e w' => e = .returned (.int .i64 1) ∧ WSAt w' F p (t.short s.data.toList) ∧ Kept F w w' := by
  obtain ⟨⟨sv, hblk, hob, hp⟩, hok⟩ := h
  have c1 : w.cell? ⟨p, 1, none⟩ = some (.int .i64 (rowBits t.row : Nat)) := hblk.cell 1
  have f1 := hblk.frozen 1
  have HB := Lib.hid hblk
  have HO := Lib.hid hob
  clear hblk hob hok
  go_enter Try.func36, Try.ntmps36
  go_wp2
  go_ret
  have e1 : t.short s.data.toList = ⟨t.bs, 0⟩ := by unfold WS.short; rw [bytes_size, if_pos hs]
  rw [e1]
  exact ⟨rfl, ⟨⟨sv, HB.out.set_ 1 _, HO.out.far (HO.out.ne_blk HB.out (by decide)) _, hp⟩, fun h => absurd rfl h⟩, (Kept.refl F w).setCell (p := ⟨p, 1, none⟩) (fun _ => hp) _⟩

theorem wsShortStr_ok (s : ByteArray) (hs : s.size ≤ 255) (w : World) (F : Nat → Prop) (p : Nat) (t : WS) (h : WSAt w F p t) (hF : ∀ j, w.heap.size ≤ j → F j) (hn : t.bs.length ≤ 140737488350000) :
    Calls Try.prog 36 #[.pointer (some ⟨p, 0, none⟩), .string s] w fun e w' => e = .returned (.int .i64 0) ∧ WSAt w' F p (t.short s.data.toList) ∧ Kept F w w' := by
  obtain ⟨⟨sv0, hblk0, hob0, hp⟩, hok⟩ := h
  have c1 : w.cell? ⟨p, 1, none⟩ = some (.int .i64 (rowBits t.row : Nat)) := hblk0.cell 1
  have f1 := hblk0.frozen 1
  have HH : Hid (WrAt (w.setCell ⟨p, 1, none⟩ (.int .i64 0)) F p t.bs 0) := Lib.hid ⟨sv0, hblk0.set_ 1 _, hob0.far (hob0.ne_blk hblk0 (by decide)) _, hp⟩
  have K0 := Lib.hid ((Kept.refl F w).setCell (p := ⟨p, 1, none⟩) (fun _ => hp) (.int .i64 0))
  have HF := Lib.hid hF
  clear hblk0 hob0 hok hF
  go_enter Try.func36, Try.ntmps36
  go_wp2_with fail
  have hz0 := K0.out.size
  generalize w.setCell ⟨p, 1, none⟩ (.int .i64 0) = w0 at HH K0 hz0 ⊢
  refine (wNumber 1 (by decide) s.size w0 F p t.bs _ HH.out (fun j hj => HF.out j (by omega)) (by omega) (by omega) (by omega)).mono ?_
  rintro e w1 ⟨rfl, ⟨sv, hblk, hob, hp⟩, hk1⟩
  obtain ⟨A0, cap, rfl, hcap, _⟩ := Own.form hob
  have hlen2 : (t.bs ++ be 1 s.size).length ≤ t.bs.length + 1 := by simp [be_length]
  have h0 : w1.cell? ⟨p, 0, none⟩ = some (.slice A0 (t.bs ++ be 1 s.size).length cap) := hblk.cell 0
  have f0 := hblk.frozen 0
  have HB := Lib.hid hblk
  have HO := Lib.hid hob
  have K1 := Lib.hid (K0.out.trans hk1)
  have hz1 := hk1.size
  clear hblk hob hcap hk1 c1 f1
  have HN := Lib.hid (HO.out.ne_blk HB.out (by decide))
  generalize hbs : t.bs ++ be 1 s.size = bs at HO HB HN h0 hlen2
  have HBs := Lib.hid hbs
  clear hbs
  go_wp2_with (at_builtin; refine wpList_appStr rfl (.tmp 19) (.tmp 20) rfl F (.slice A0 bs.length cap) bs rfl HO.out s rfl (by omega) (HF.out _ (by omega)) ?_; intro A1 cap1 w2 hown hk; have hb1 := Blk.keep HB.out hk HN.out; have c1 : w2.cell? ⟨p, 0, none⟩ = some (.slice A0 bs.length cap) := hb1.cell 0; have f1 := hb1.frozen 0; have HB1 := Lib.hid hb1; have HO1 := Lib.hid hown; have HK1 := Lib.hid hk; clear hb1 hown hk)
  go_ret
  have e1 : t.short s.data.toList = ⟨bs ++ s.data.toList, 0⟩ := by unfold WS.short WS.num WS.raw; rw [bytes_size, if_neg (by omega), HBs.out]
  rw [e1]
  refine ⟨rfl, ⟨⟨_, HB1.out.set_ 0 _, ?_, hp⟩, fun h => absurd rfl h⟩, ?_⟩
  · have h2 := HO1.out.far (p := ⟨p, 0, none⟩) (HO1.out.ne_blk HB1.out (by decide)) (.slice A1 (bs.length + s.size) cap1)
    exact h2
  · exact (K1.out.trans2 HK1.out (fun i _ h => (HO.out.2 i h))).setCell (fun _ => hp) _

end Go.Proofs.Ytepligggofbegaa
