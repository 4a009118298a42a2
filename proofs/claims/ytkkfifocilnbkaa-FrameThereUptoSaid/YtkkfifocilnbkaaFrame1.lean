/-
  Contracts of frame.known, Pack, Header.
-/
import Derived.Test.YtkkfifocilnbkaaOctR2
import Derived.Test.YtkkfifocilnbkaaOctW2
import Derived.Test.YtkkfifocilnbkaaRef01
import Derived.Lib.SlBytesConst
import Derived.Deep.CutRange
import Derived.Deep.CutBlock
import Derived.Deep.RegionHeld3
namespace Go.Proofs.Ytkkfifocilnbkaa
open Go.RowKit

def knownB (k : Int) : Bool := k == 1 || k == 2 || k == 3 || k == 8

theorem frameKnown (k : Int) (w : World) : Calls Try.prog 24 #[.int .i64 k] w fun e w' => e = .returned (.bool (knownB k)) ∧ w = w' := by
  obtain ⟨b, HB⟩ : ∃ b, Hid (knownB k = b) := ⟨_, Lib.hid rfl⟩
  rw [HB.out]
  unfold knownB at HB
  rcases h1 : (k == 1) with _ | _ <;> rcases h2 : (k == 2) with _ | _ <;> rcases h3 : (k == 3) with _ | _ <;> rcases h8 : (k == 8) with _ | _ <;> rw [h1, h2, h3, h8] at HB
  all_goals
    have e := HB.out
    simp only [Bool.or_false, Bool.or_true] at e
    subst e
    go_enter Try.func24, Try.ntmps24
    go_wp2
    go_ret
    exact ⟨rfl, rfl⟩

/-- A frame's octets. -/
def packed (t ch : Int) (pl : List UInt8) : List UInt8 := be 1 t ++ be 2 ch ++ be 4 (pl.length : Int) ++ pl ++ be 1 206
theorem packed_length (t ch : Int) (pl : List UInt8) : (packed t ch pl).length = pl.length + 8 := by
  simp [packed, be_length]
  omega

/-- Which error, or 0. -/
def packErr (t ch : Int) : Int := if knownB t then if ch < 0 ∨ 65535 < ch then 2 else 0 else 40
def packOut (t ch : Int) (pl : List UInt8) : List UInt8 := if packErr t ch = 0 then packed t ch pl else []

def PackPost (w : World) (t ch : Int) (pl : List UInt8) (e : Ending) (w' : World) : Prop :=
  ∃ A c, e = .returned (.tuple #[.slice A (packOut t ch pl).length c, .int .i64 (packErr t ch)]) ∧ OB w' (w.heap.size ≤ ·) (.slice A (packOut t ch pl).length c) (packOut t ch pl) ∧ Kept noneS w w'

set_option maxHeartbeats 1600000 in
theorem framePack (t ch : Int) (A : Option Addr) (c n : Nat) (pl : List UInt8) (hl : pl.length = n) (G : Nat → Prop) (w : World) (hb : RB w G A pl) (hn : pl.length ≤ 140737488351300) (ht1 : -9223372036854775808 ≤ t) (ht2 : t ≤ 9223372036854775807) :
    Calls Try.prog 9 #[.agg #[.int .i64 t, .int .i64 ch, .slice A n c]] w (PackPost w t ch pl) := by
  subst hl
  have RB0 := Lib.hid (hb.mono (G := (· < w.heap.size)) (fun k h _ => h))
  clear hb
  obtain ⟨er, HEr⟩ : ∃ er, Hid (packErr t ch = er) := ⟨_, Lib.hid rfl⟩
  obtain ⟨out, HOut⟩ : ∃ out, Hid (packOut t ch pl = out) := ⟨_, Lib.hid rfl⟩
  have HP : Hid (∀ e w', (∃ A c, e = .returned (.tuple #[.slice A out.length c, .int .i64 er]) ∧ OB w' (w.heap.size ≤ ·) (.slice A out.length c) out ∧ Kept noneS w w') → PackPost w t ch pl e w') := Lib.hid (by
    intro e w' h
    unfold PackPost
    rw [HEr.out, HOut.out]
    exact h)
  refine Calls.mono (R := fun e w' => ∃ A c, e = .returned (.tuple #[.slice A out.length c, .int .i64 er]) ∧ OB w' (w.heap.size ≤ ·) (.slice A out.length c) out ∧ Kept noneS w w') ?_ (fun e w' h => HP.out e w' h)
  rcases hk : knownB t with _ | _
  · have he : er = 40 := by rw [← HEr.out]; unfold packErr; rw [hk]; rfl
    have ho : out = [] := by rw [← HOut.out]; unfold packOut; rw [HEr.out, he, if_neg (by decide)]
    subst he ho
    go_enter Try.func9, Try.ntmps9
    go_wp2_with (go_at_call 24; refine (frameKnown t _).mono ?_; rw [hk]; rintro e w' ⟨rfl, rfl⟩)
    go_ret2
    exact ⟨none, 0, rfl, Own.nil _ _ _ _, (Kept.refl _ _).alloc _⟩
  · by_cases hch : ch < 0 ∨ 65535 < ch
    · have he : er = 2 := by rw [← HEr.out]; unfold packErr; rw [hk, if_pos rfl, if_pos hch]
      have ho : out = [] := by rw [← HOut.out]; unfold packOut; rw [HEr.out, he, if_neg (by decide)]
      subst he ho
      rcases hch with hch | hch
      · have hd : decide (ch < 0) = true := by simpa using hch
        go_enter Try.func9, Try.ntmps9
        go_wp2_with (go_at_call 24; refine (frameKnown t _).mono ?_; rw [hk]; rintro e w' ⟨rfl, rfl⟩)
        go_ret2
        exact ⟨none, 0, rfl, Own.nil _ _ _ _, (Kept.refl _ _).alloc _⟩
      · have hd : decide (ch < 0) = false := by simp; omega
        go_enter Try.func9, Try.ntmps9
        go_wp2_with (go_at_call 24; refine (frameKnown t _).mono ?_; rw [hk]; rintro e w' ⟨rfl, rfl⟩)
        go_ret2
        exact ⟨none, 0, rfl, Own.nil _ _ _ _, (Kept.refl _ _).alloc _⟩
    · have he : er = 0 := by rw [← HEr.out]; unfold packErr; rw [hk, if_pos rfl, if_neg hch]
      have ho : out = packed t ch pl := by rw [← HOut.out]; unfold packOut; rw [HEr.out, he, if_pos rfl]
      have HO := Lib.hid ho
      clear ho HOut HEr
      subst he
      have hc1 : 0 ≤ ch := by omega
      have hc2 : ch ≤ 65535 := by omega
      clear hch
      have HBk := Lib.hid (Blk.new w 25 #[.int .i64 t, .int .i64 ch, .slice A pl.length c])
      have K0 := Lib.hid ((Kept.refl noneS w).alloc (.cells #[.int .i64 t, .int .i64 ch, .slice A pl.length c] 25))
      have hz0 : w.heap.size < (w.alloc (.cells #[.int .i64 t, .int .i64 ch, .slice A pl.length c] 25)).heap.size := by simp
      go_enter Try.func9, Try.ntmps9
      go_upto_region 5 with (first | (go_at_call 24; refine (frameKnown t _).mono ?_; rw [hk]; rintro e w' ⟨rfl, rfl⟩))
      generalize w.alloc (.cells #[.int .i64 t, .int .i64 ch, .slice A pl.length c] 25) = wa at HBk K0 hz0 ⊢
      clear hk
      go_wp2_with fail
      refine (newWS wa).mono ?_
      rintro e w1 ⟨rfl, h1, k1⟩
      have H1 := Lib.hid h1
      have B1 := Lib.hid (HBk.out.keep k1 (fun q => q))
      have K1 := Lib.hid (K0.out.trans k1)
      have s1 := k1.size
      have t1 : w1.cell? ⟨w.heap.size, 0, none⟩ = some (.int .i64 t) := B1.out.cell 0
      clear h1 k1
      generalize hp : wa.heap.size = p at H1 s1 hz0 ⊢
      clear hp
      generalize hbo : w.heap.size = bo at HBk B1 hz0 t1 RB0 ⊢
      have HBo := Lib.hid hbo
      clear hbo
      go_wp2_with fail
      refine (wsOctet t w1 (p ≤ ·) p ⟨[], 0⟩ H1.out (fun j h => Nat.le_trans s1 h) (by decide) ht1 ht2).mono ?_
      rintro e w2 ⟨rfl, h2, k2⟩
      have H2 := Lib.hid h2
      have B2 := Lib.hid (B1.out.keep k2 (fun q => by omega))
      have K2 := Lib.hid ((K1.out.mono (S' := (p ≤ ·)) (fun _ _ q => q.elim)).trans2 k2 (fun _ _ h => h))
      have s2 := Nat.le_trans s1 k2.size
      have t2 : w2.cell? ⟨bo, 1, none⟩ = some (.int .i64 ch) := B2.out.cell 1
      clear h2 k2 t1
      go_wp2_with fail
      refine (wsShort ch w2 (p ≤ ·) p _ H2.out (fun j h => Nat.le_trans s2 h) (by simp [WS.num, WS.raw, be_length]) (by omega) (by omega)).mono ?_
      rintro e w3 ⟨rfl, h3, k3⟩
      have H3 := Lib.hid h3
      have B3 := Lib.hid (B2.out.keep k3 (fun q => by omega))
      have K3 := Lib.hid (K2.out.trans2 k3 (fun _ _ h => h))
      have s3 := Nat.le_trans s2 k3.size
      have t3 : w3.cell? ⟨bo, 2, none⟩ = some (.slice A pl.length c) := B3.out.cell 2
      clear h3 k3 t2
      go_wp2_with fail
      refine (wsLong (pl.length : Int) w3 (p ≤ ·) p _ H3.out (fun j h => Nat.le_trans s3 h) (by simp [WS.num, WS.raw, be_length]) (by omega) (by omega)).mono ?_
      rintro e w4 ⟨rfl, h4, k4⟩
      have H4 := Lib.hid h4
      have B4 := Lib.hid (B3.out.keep k4 (fun q => by omega))
      have K4 := Lib.hid (K3.out.trans2 k4 (fun _ _ h => h))
      have s4 := Nat.le_trans s3 k4.size
      have t4 : w4.cell? ⟨bo, 2, none⟩ = some (.slice A pl.length c) := B4.out.cell 2
      have RB4 := Lib.hid (RB0.out.keep K4.out (fun k _ a b => by omega))
      clear h4 k4 t3
      go_wp2_with fail
      refine (wsRaw A c pl.length pl rfl (· < bo) w4 (p ≤ ·) p _ H4.out (fun j h => Nat.le_trans s4 h) RB4.out (fun k a b => by omega) (by simp [WS.num, WS.raw, be_length]; omega)).mono ?_
      rintro e w5 ⟨rfl, h5, k5⟩
      have H5 := Lib.hid h5
      have K5 := Lib.hid (K4.out.trans2 k5 (fun _ _ h => h))
      have s5 := Nat.le_trans s4 k5.size
      clear h5 k5 t4
      go_wp2_with fail
      refine (wsOctet 206 w5 (p ≤ ·) p _ H5.out (fun j h => Nat.le_trans s5 h) (by simp [WS.num, WS.raw, be_length]; omega) (by decide) (by decide)).mono ?_
      rintro e w6 ⟨rfl, h6, k6⟩
      have e6 : ((((((WS.mk [] 0).num 1 t).num 2 ch).num 4 (pl.length : Int)).raw pl).num 1 206).bs = out := by rw [HO.out]; simp [WS.num, WS.raw, packed]
      have H6 := Lib.hid h6.1
      rw [e6] at H6
      have hol : out.length ≤ 140737488355328 := by rw [HO.out, packed_length]; omega
      have K6 := Lib.hid (K5.out.trans2 k6 (fun _ _ h => h))
      have s6 := Nat.le_trans s5 k6.size
      clear h6 k6 e6
      go_wp2_with fail
      refine (wBytes w6 (p ≤ ·) p out _ H6.out hol).mono ?_
      rintro e w7 ⟨v, rfl, o7, k7⟩
      obtain ⟨A7, c7, rfl, _⟩ := Own.form o7
      have hbp : bo ≤ w6.heap.size := by omega
      have O7 := Lib.hid (Own.mono o7 (G := (bo ≤ ·)) (fun k _ q => Nat.le_trans hbp q))
      have K7 := Lib.hid (K6.out.trans2 k7 (fun _ _ q => q.elim))
      clear o7 k7
      go_wp2
      go_ret2
      rw [HBo.out]
      exact ⟨A7, c7, rfl, O7.out, K7.out.mono (fun k a b => by have := HBo.out; omega)⟩

def helloBs : List UInt8 := [65, 77, 81, 80, 0, 0, 9, 1]
theorem frameHeader (w : World) : Calls Try.prog 13 #[] w fun e w' => e = .returned (.slice (some ⟨w.heap.size, 0, none⟩) 8 8) ∧ RB w' (· = w.heap.size) (some ⟨w.heap.size, 0, none⟩) helloBs ∧ w.heap.size < w'.heap.size ∧ Kept noneS w w' := by
  have kc := fun (w : World) (C : Array Value) (n c : Nat) => Lib.run_convert_bytes_const (P := Try.prog) w 23 5 C n c Try.underlying23 Try.underlying5
  go_enter Try.func13, Try.ntmps13
  go_wp2
  go_ret
  exact ⟨rfl, RB.lit _ _ _ _ _ helloBs rfl rfl, by simp, (Kept.refl _ _).alloc _⟩

set_option maxHeartbeats 400000 in
theorem same_any (A B : Option Addr) (c d n m : Nat) (xs ys : List UInt8) (F G : Nat → Prop) (w : World) (hx : RB w F A xs) (hy : RB w G B ys) (hl : xs.length = n) (hm : ys.length = m) :
    Calls Try.prog 11 #[.slice A n c, .slice B m d] w fun e w' => e = .returned (.bool (xs == ys)) ∧ w = w' := by
  subst hl hm
  have h1 := run_str w F A c xs hx
  have h2 := run_str w G B d ys hy
  clear hx hy
  go_enter Try.func11, Try.ntmps11
  go_wp2
  go_ret
  exact ⟨rfl, rfl⟩

set_option maxHeartbeats 400000 in
theorem clone_any (A : Option Addr) (c : Nat) (xs : List UInt8) (F : Nat → Prop) (w : World) (hx : RB w F A xs) (hn : xs.length ≤ 140737488355328) :
    Calls Try.prog 8 #[.slice A xs.length c] w fun e w' => ∃ A' c', e = .returned (.slice A' xs.length c') ∧ OB w' (w.heap.size ≤ ·) (.slice A' xs.length c') xs ∧ Kept noneS w w' := by
  have HX := Lib.hid hx
  clear hx
  go_enter Try.func8, Try.ntmps8
  go_wp2_with (at_builtin; refine wpList_appN rfl (.tmp 3) (.tmp 4) rfl (w.heap.size ≤ ·) F (.slice (some ⟨w.heap.size, 0, none⟩) 0 0) [] rfl (Own.empty _ _ _ _ (Nat.le_refl _)) A c xs rfl (HX.out.alloc _) (by simp; omega) (by simp) ?_; intro A1 cap1 w1 hown hcap1 hk; have HO1 := Lib.hid hown; have HK1 := Lib.hid hk; clear hown hk)
  go_ret
  refine ⟨A1, cap1, rfl, by simpa using HO1.out, ((Kept.refl noneS w).alloc _).trans2 HK1.out ?_⟩
  intro k h1 h2
  have h3 : w.heap.size = k := by simpa [ownS, Value.ownBlock] using h2
  exfalso
  omega

theorem refHello (w : World) : Calls Try.prog 22 #[] w fun e w' => e = .returned (.slice (some ⟨w.heap.size, 0, none⟩) 8 8) ∧ RB w' (· = w.heap.size) (some ⟨w.heap.size, 0, none⟩) helloBs ∧ w.heap.size < w'.heap.size ∧ Kept noneS w w' := by
  go_enter Try.func22, Try.ntmps22
  go_wp2
  go_ret
  exact ⟨rfl, RB.lit _ _ _ _ _ helloBs rfl rfl, by simp, (Kept.refl _ _).alloc _⟩

end Go.Proofs.Ytkkfifocilnbkaa
