/-
  Contracts of warrenref01.Writer's methods.
-/
import Derived.Test.YtepligggofbegaaOctW3
import Derived.Test.YtepligggofbegaaRef01
namespace Go.Proofs.Ytepligggofbegaa
open Go.RowKit

/-- The document's Writer at block p. -/
def RWAt (w : World) (F : Nat → Prop) (p : Nat) (s : WS) : Prop :=
  (∃ sv, Blk w p 47 #[sv, .int .i64 (s.row : Int)] ∧ OB w F sv s.bs ∧ F p) ∧ s.ok
theorem RWAt.keep {w w' : World} {F S : Nat → Prop} {p : Nat} {s : WS} (h : RWAt w F p s) (hk : Kept S w w') (hd : ∀ k, k < w.heap.size → F k → S k → False) : RWAt w' F p s := by
  obtain ⟨⟨sv, h1, h2, h3⟩, h4⟩ := h
  exact ⟨⟨sv, h1.keep hk (hd p h1.lt h3), Own.keep h2 hk hd, h3⟩, h4⟩
theorem RWAt.still {w w' : World} {F : Nat → Prop} {p : Nat} {s : WS} (h : RWAt w F p s) (hk : Kept noneS w w') : RWAt w' F p s := h.keep hk fun _ _ _ q => q.elim
theorem RWAt.mono {w : World} {F G : Nat → Prop} {p : Nat} {s : WS} (h : RWAt w F p s) (hG : ∀ k, k < w.heap.size → F k → G k) : RWAt w G p s := by
  obtain ⟨⟨sv, h1, h2, h3⟩, h4⟩ := h
  exact ⟨⟨sv, h1, Own.mono h2 hG, hG p h1.lt h3⟩, h4⟩

set_option maxHeartbeats 800000 in
theorem rwRaw (A : Option Addr) (c n : Nat) (xs : List UInt8) (hl : xs.length = n) (G : Nat → Prop) (w : World) (F : Nat → Prop) (p : Nat) (s : WS) (h : RWAt w F p s) (hF : ∀ j, w.heap.size ≤ j → F j)
    (hx : RB w G A xs) (hd : ∀ k, k < w.heap.size → F k → G k → False) (hn : s.bs.length + xs.length ≤ 140737488351232) :
    Calls Try.prog 49 #[.pointer (some ⟨p, 0, none⟩), .slice A n c] w fun e w' => e = .returned (.tuple #[]) ∧ RWAt w' F p (s.raw xs) ∧ Kept F w w' := by
  subst hl
  obtain ⟨⟨sv, hblk, hob, hp⟩, hok⟩ := h
  have c1 : w.cell? ⟨p, 1, none⟩ = some (.int .i64 (s.row : Int)) := hblk.cell 1
  have f1 := hblk.frozen 1
  have HB := Lib.hid hblk
  have HO := Lib.hid hob
  have HF := Lib.hid hF
  have HX := Lib.hid (hx.mono (G := fun k => ¬ F k) (fun k hk g f => hd k hk f g))
  clear hblk hob hF hx hd hok
  go_enter Try.func49, Try.ntmps49
  go_wp2
  go_loopw [4] (fun i wr => ∃ (j : Nat) (sv : Value), j ≤ xs.length ∧ i = .int .i64 j ∧ Blk wr p 47 #[sv, .int .i64 0] ∧ OB wr F sv (s.bs ++ xs.take j) ∧ Kept F w wr) (fun i _ => xs.length - (intOf i).toNat)
  case atStart => exact ⟨0, sv, Nat.zero_le _, rfl, HB.out.set_ 1 _, by rw [List.take_zero, List.append_nil]; exact HO.out.far (p := ⟨p, 1, none⟩) (HO.out.ne_blk HB.out (by decide)) (.int .i64 0), (Kept.refl F w).setCell (p := ⟨p, 1, none⟩) (fun _ => hp) _⟩
  case round =>
    obtain ⟨j, sv', hj, rfl, hblk, hob, hkept⟩ := hrel
    obtain ⟨A0, cap, rfl, hcap, _⟩ := Own.form hob
    have B1 := Lib.hid hblk
    have O1 := Lib.hid hob
    have K1 := Lib.hid hkept
    have hplt := hblk.lt
    clear hblk hob hkept hcap
    by_cases hlt : j < xs.length
    · obtain ⟨g, o, rfl, _, hc⟩ := (HX.out.keep K1.out (fun k _ a b => a b)).at_ hlt
      have HT := Lib.hid (List.take_succ_eq_append_getElem hlt)
      have hlen : (s.bs ++ xs.take j).length ≤ s.bs.length + j := by simp; omega
      have hcb : ∃ q, wr.cell? ⟨g, o + j, none⟩ = some (.int .u8 (q : Nat)) := ⟨_, hc⟩
      generalize xs[j] = b at hc HT
      generalize hcur : s.bs ++ xs.take j = cur at O1 B1 hlen ⊢
      have HCu := Lib.hid hcur
      clear hcur hcb
      have c0 : wr.cell? ⟨p, 0, none⟩ = some (.slice A0 cur.length cap) := B1.out.cell 0
      have HN := Lib.hid (O1.out.ne_blk B1.out (by decide))
      have hne : w.heap.size ≤ wr.heap.size := K1.out.size
      go_wp2
      go_region_law (refine step_app1 rfl (.tmp 18) (.tmp 23) rfl F (.slice A0 cur.length cap) cur rfl (Own.drew (Own.alloc O1.out _)) wr.heap.size b rfl (by simp) (by omega) (HF.out _ (by simp; omega)) ?_; intro A1 cap1 w1 hown hcap1 hk; have hb1 := Blk.keep (Blk.drew (Blk.alloc B1.out _)) hk HN.out; have c2 : w1.cell? ⟨p, 0, none⟩ = some (.slice A0 cur.length cap) := hb1.cell 0; have f2 := hb1.frozen 0; have HB1 := Lib.hid hb1; have HO1 := Lib.hid hown; have HK1 := Lib.hid hk; clear hb1 hown hk)
      all_goals
        go_wp2
        go_roundw
        case rel =>
          refine ⟨j + 1, _, by omega, by go_num, HB1.out.set_ 0 _, ?_, ?_⟩
          · have e : s.bs ++ xs.take (j + 1) = cur ++ [b] := by rw [HT.out, ← List.append_assoc, HCu.out]
            rw [e]
            exact HO1.out.far (p := ⟨p, 0, none⟩) (HO1.out.ne_blk HB1.out (by decide)) (.slice A1 (cur.length + 1) cap1)
          · exact (K1.out.trans2 (((((Kept.refl (ownS (.slice A0 cur.length cap)) wr).alloc _).drew).trans HK1.out)) (fun i _ h => (O1.out.2 i h))).setCell (fun _ => hp) _
        case measure => simp [intOf]; omega
    · obtain rfl : j = xs.length := by omega
      have O2 := Lib.hid O1.out
      rw [List.take_length] at O2
      have HB2 : Hid (Blk wr p 47 #[.slice A0 (s.bs ++ xs).length cap, .int .i64 0]) := Lib.hid (by have := B1.out; rwa [List.take_length] at this)
      clear O1 B1
      go_wp2
      go_end0
      exact ⟨rfl, ⟨⟨_, HB2.out, O2.out, hp⟩, WS.ok_raw _ _⟩, K1.out⟩

set_option maxHeartbeats 400000 in
theorem rwNum (k : Nat) (hk8 : k ≤ 8) (n : Int) (w : World) (F : Nat → Prop) (p : Nat) (s : WS) (h : RWAt w F p s) (hF : ∀ j, w.heap.size ≤ j → F j) (hn : s.bs.length ≤ 140737488351000) (hlo : -9223372036854775808 ≤ n) (hhi : n ≤ 9223372036854775807) :
    Calls Try.prog 45 #[.pointer (some ⟨p, 0, none⟩), .int .i64 (k : Int), .int .i64 n] w fun e w' => e = .returned (.tuple #[]) ∧ RWAt w' F p (s.num k n) ∧ Kept F w w' := by
  have HH := Lib.hid h
  have HF := Lib.hid hF
  clear h hF
  go_enter Try.func45, Try.ntmps45
  go_wp2_with fail
  refine (refNum k hk8 n w hlo hhi).mono ?_
  rintro e w1 ⟨A, c, rfl, h1, k1⟩
  have H1 := Lib.hid (OB.rb h1).2
  have K1 := Lib.hid k1
  have hz := k1.size
  have hlen : (be k n).length ≤ 8 := by rw [be_length]; exact hk8
  clear h1 k1
  go_wp2_with fail
  refine (rwRaw A c (be k n).length (be k n) rfl (fun j => w.heap.size ≤ j ∧ j < w1.heap.size) w1 (fun j => (F j ∧ j < w.heap.size) ∨ w1.heap.size ≤ j) p s ((HH.out.mono fun j a b => .inl ⟨b, a⟩).still K1.out) (fun j a => .inr a) (H1.out.mono fun j a b => ⟨b, a⟩) (fun j _ a b => by omega) (by omega)).mono ?_
  rintro e w2 ⟨rfl, h2, k2⟩
  have H2 := Lib.hid (h2.mono (G := F) (fun j _ a => a.elim (fun a => a.1) (fun a => HF.out j (by omega))))
  have K2 := Lib.hid ((K1.out.mono (S' := F) (fun _ _ q => q.elim)).trans2 k2 (fun j _ a => a.elim (fun a => a.1) (fun a => HF.out j (by omega))))
  clear h2 k2
  go_wp2
  go_end0
  exact ⟨rfl, H2.out, K2.out⟩

set_option maxHeartbeats 400000 in
theorem rwLongStr (s : ByteArray) (w : World) (F : Nat → Prop) (p : Nat) (t : WS) (h : RWAt w F p t) (hF : ∀ j, w.heap.size ≤ j → F j) (hn : t.bs.length + s.size ≤ 140737488350000) :
    Calls Try.prog 48 #[.pointer (some ⟨p, 0, none⟩), .string s] w fun e w' => e = .returned (.tuple #[]) ∧ RWAt w' F p (t.long s.data.toList) ∧ Kept F w w' := by
  have HH := Lib.hid h
  have HF := Lib.hid hF
  clear h hF
  go_enter Try.func48, Try.ntmps48
  go_wp2_with fail
  refine (rwNum 4 (by decide) s.size w F p t HH.out HF.out (by omega) (by omega) (by omega)).mono ?_
  rintro e w1 ⟨rfl, h1, k1⟩
  have H1 := Lib.hid h1
  have K1 := Lib.hid k1
  have hz := k1.size
  clear h1 k1
  have hcv := fun W => run_bytes_of W s
  have hbz := Lib.bytesWorld_size w1 5 s
  have hbz2 : (Lib.bytesWorld w1 5 s).heap.size = w1.heap.size + 1 := hbz
  have HZ := Lib.hid hbz2
  clear hbz hbz2
  have hlen : (t.num 4 s.size).bs.length ≤ t.bs.length + 4 := by simp [WS.num, WS.raw, be_length]
  go_wp2_with fail
  refine (rwRaw (some ⟨w1.heap.size, 0, none⟩) _ s.size s.data.toList (bytes_size s) (fun j => j = w1.heap.size) (Lib.bytesWorld w1 5 s) (fun j => (F j ∧ j < w1.heap.size) ∨ w1.heap.size + 1 ≤ j) p (t.num 4 s.size) ((H1.out.mono fun j a b => .inl ⟨b, a⟩).still (bytes_kept w1 _ s)) (fun j a => .inr (by rw [HZ.out] at a; exact a)) (bytes_rb w1 _ s) (fun j _ a b => by omega) (by rw [bytes_size]; omega)).mono ?_
  rintro e w2 ⟨rfl, h2, k2⟩
  have H2 := Lib.hid (h2.mono (G := F) (fun j _ a => a.elim (fun a => a.1) (fun a => HF.out j (by omega))))
  have K2 := Lib.hid ((K1.out.trans2 (bytes_kept w1 _ s) (fun _ _ q => q.elim)).trans2 k2 (fun j _ a => a.elim (fun a => a.1) (fun a => HF.out j (by omega))))
  clear h2 k2 hcv
  go_wp2
  go_end0
  have e1 : t.long s.data.toList = (t.num 4 s.size).raw s.data.toList := by unfold WS.long; rw [bytes_size]
  rw [e1]
  exact ⟨rfl, H2.out, K2.out⟩

set_option maxHeartbeats 400000 in
theorem rwShortStr_ok (s : ByteArray) (hs : s.size ≤ 255) (w : World) (F : Nat → Prop) (p : Nat) (t : WS) (h : RWAt w F p t) (hF : ∀ j, w.heap.size ≤ j → F j) (hn : t.bs.length ≤ 140737488340000) :
    Calls Try.prog 47 #[.pointer (some ⟨p, 0, none⟩), .string s] w fun e w' => e = .returned (.int .i64 0) ∧ RWAt w' F p (t.short s.data.toList) ∧ Kept F w w' := by
  obtain ⟨⟨sv, hblk, hob, hp⟩, hok⟩ := h
  have c1 : w.cell? ⟨p, 1, none⟩ = some (.int .i64 (t.row : Int)) := hblk.cell 1
  have f1 := hblk.frozen 1
  have HH : Hid (RWAt (w.setCell ⟨p, 1, none⟩ (.int .i64 0)) F p ⟨t.bs, 0⟩) := Lib.hid ⟨⟨sv, hblk.set_ 1 _, hob.far (hob.ne_blk hblk (by decide)) _, hp⟩, fun h => absurd rfl h⟩
  have K0 := Lib.hid ((Kept.refl F w).setCell (p := ⟨p, 1, none⟩) (fun _ => hp) (.int .i64 0))
  have HF := Lib.hid hF
  clear hblk hob hok hF
  go_enter Try.func47, Try.ntmps47
  go_wp2_with fail
  have hz0 := K0.out.size
  generalize w.setCell ⟨p, 1, none⟩ (.int .i64 0) = w0 at HH K0 hz0 ⊢
  refine (rwNum 1 (by decide) s.size w0 F p ⟨t.bs, 0⟩ HH.out (fun j hj => HF.out j (by omega)) (by show t.bs.length ≤ _; omega) (by omega) (by omega)).mono ?_
  rintro e w1 ⟨rfl, h1, k1⟩
  have H1 := Lib.hid h1
  have K1 := Lib.hid (K0.out.trans k1)
  have hz := k1.size
  clear h1 k1 c1 f1
  have hcv := fun W => run_bytes_of W s
  have HZ := Lib.hid (Lib.bytesWorld_size w1 5 s)
  have hlen : ((⟨t.bs, 0⟩ : WS).num 1 s.size).bs.length ≤ t.bs.length + 1 := by simp [WS.num, WS.raw, be_length]
  go_wp2_with fail
  refine (rwRaw (some ⟨w1.heap.size, 0, none⟩) _ s.size s.data.toList (bytes_size s) (fun j => j = w1.heap.size) (Lib.bytesWorld w1 5 s) (fun j => (F j ∧ j < w1.heap.size) ∨ w1.heap.size + 1 ≤ j) p ((⟨t.bs, 0⟩ : WS).num 1 s.size) ((H1.out.mono fun j a b => .inl ⟨b, a⟩).still (bytes_kept w1 _ s)) (fun j a => .inr (by rw [HZ.out] at a; exact a)) (bytes_rb w1 _ s) (fun j _ a b => by omega) (by rw [bytes_size]; omega)).mono ?_
  rintro e w2 ⟨rfl, h2, k2⟩
  have H2 := Lib.hid (h2.mono (G := F) (fun j _ a => a.elim (fun a => a.1) (fun a => HF.out j (by omega))))
  have K2 := Lib.hid ((K1.out.trans2 (bytes_kept w1 _ s) (fun _ _ q => q.elim)).trans2 k2 (fun j _ a => a.elim (fun a => a.1) (fun a => HF.out j (by omega))))
  clear h2 k2 hcv
  go_wp2
  go_ret
  have e1 : t.short s.data.toList = ((⟨t.bs, 0⟩ : WS).num 1 s.size).raw s.data.toList := by unfold WS.short; rw [bytes_size, if_neg (by omega)]; rfl
  rw [e1]
  exact ⟨rfl, H2.out, K2.out⟩

theorem rwShortStr_long (s : ByteArray) (hs : 255 < s.size) (hs2 : s.size ≤ 9223372036854775807) (w : World) (F : Nat → Prop) (p : Nat) (t : WS) (h : RWAt w F p t) :
    Calls Try.prog 47 #[.pointer (some ⟨p, 0, none⟩), .string s] w fun e w' => e = .returned (.int .i64 1) ∧ RWAt w' F p (t.short s.data.toList) ∧ Kept F w w' := by
  obtain ⟨⟨sv, hblk, hob, hp⟩, hok⟩ := h
  have c1 : w.cell? ⟨p, 1, none⟩ = some (.int .i64 (t.row : Int)) := hblk.cell 1
  have f1 := hblk.frozen 1
  have HB := Lib.hid hblk
  have HO := Lib.hid hob
  clear hblk hob hok
  go_enter Try.func47, Try.ntmps47
  go_wp2
  go_ret
  have e1 : t.short s.data.toList = ⟨t.bs, 0⟩ := by unfold WS.short; rw [bytes_size, if_pos hs]
  rw [e1]
  exact ⟨rfl, ⟨⟨sv, HB.out.set_ 1 _, HO.out.far (HO.out.ne_blk HB.out (by decide)) _, hp⟩, fun h => absurd rfl h⟩, (Kept.refl F w).setCell (p := ⟨p, 1, none⟩) (fun _ => hp) _⟩

end Go.Proofs.Ytepligggofbegaa
