/-
  Contracts of octet.Writer's methods.
-/
import Derived.Test.YtkkfifocilnbkaaRows
import Derived.Test.YtkkfifocilnbkaaByt
namespace Go.Proofs.Ytkkfifocilnbkaa
open Go.RowKit

/-- The lowest k octets of a number, the greatest first. -/
def be : Nat → Int → List UInt8
  | 0, _ => []
  | k + 1, n => lo8 (n / 2 ^ (8 * k)) :: be k n
theorem be_length (k : Nat) (n : Int) : (be k n).length = k := by
  induction k with
  | zero => rfl
  | succ k ih => simp [be, ih]

/-- A Writer at block p that holds octets. -/
def WrAt (w : World) (F : Nat → Prop) (p : Nat) (bs : List UInt8) (bits : Int) : Prop :=
  ∃ sv, Blk w p 76 #[sv, .int .i64 bits] ∧ OB w F sv bs ∧ F p

theorem WrAt.keep {w w' : World} {F S : Nat → Prop} {p : Nat} {bs : List UInt8} {bits : Int} (h : WrAt w F p bs bits) (hk : Kept S w w') (hd : ∀ k, k < w.heap.size → F k → S k → False) : WrAt w' F p bs bits := by
  obtain ⟨sv, h1, h2, h3⟩ := h
  exact ⟨sv, h1.keep hk (hd p h1.lt h3), Own.keep h2 hk hd, h3⟩
theorem WrAt.still {w w' : World} {F : Nat → Prop} {p : Nat} {bs : List UInt8} {bits : Int} (h : WrAt w F p bs bits) (hk : Kept noneS w w') : WrAt w' F p bs bits := h.keep hk fun _ _ _ q => q.elim
theorem newWriter (w : World) : Calls Try.prog 25 #[] w fun e w' => e = .returned (.pointer (some ⟨w.heap.size, 0, none⟩)) ∧ WrAt w' (w.heap.size ≤ ·) w.heap.size [] 0 ∧ Kept noneS w w' := by
  go_enter Try.func25, Try.ntmps25
  go_wp2
  go_ret
  exact ⟨rfl, ⟨_, Blk.new _ _ _, Own.nil _ _ _ _, Nat.le_refl _⟩, (Kept.refl _ _).alloc _⟩

theorem shr8 (n : Int) (m : Nat) (hm : m < 8) : Op.shift .shr .i64 n .i64 (8 * (m : Int)) = pure (.int .i64 (n / 2 ^ (8 * m))) := by
  rw [shift_shr_any _ _ _ _ (by omega), show min (8 * (m : Int)).toNat IntKind.i64.bits = 8 * m by
    show min (8 * (m : Int)).toNat 64 = 8 * m
    omega]

set_option maxHeartbeats 400000 in
theorem wNumber (k : Nat) (hk8 : k ≤ 8) (n : Int) (w : World) (F : Nat → Prop) (p : Nat) (bs : List UInt8) (bits : Int) (h : WrAt w F p bs bits) (hF : ∀ j, w.heap.size ≤ j → F j) (hn : bs.length ≤ 140737488355000)
    (hlo : -9223372036854775808 ≤ n) (hhi : n ≤ 9223372036854775807) :
    Calls Try.prog 43 #[.pointer (some ⟨p, 0, none⟩), .int .i64 (k : Int), .int .i64 n] w fun e w' => e = .returned (.tuple #[]) ∧ WrAt w' F p (bs ++ be k n) 0 ∧ Kept F w w' := by
  obtain ⟨sv, hblk, hob, hp⟩ := h
  obtain ⟨i0, hi, hz0, hz1, hz2⟩ := info_parts infoU8
  have h0 : w.cell? ⟨p, 0, none⟩ = some sv := hblk.cell 0
  have h1 : w.cell? ⟨p, 1, none⟩ = some (.int .i64 bits) := hblk.cell 1
  have f1 := hblk.frozen 1
  have HB := Lib.hid hblk
  have HO := Lib.hid hob
  have HF := Lib.hid hF
  clear hblk hob hF
  go_enter Try.func43, Try.ntmps43
  go_wp2
  go_loopw [6] (fun i wr => ∃ (z : Int) (j : Nat) (cur : List UInt8), Hid (z + 1 = j) ∧ j ≤ k ∧ i = .int .i64 z ∧ Hid (cur ++ be j n = bs ++ be k n) ∧ WrAt wr F p cur 0 ∧ Kept F w wr) (fun i _ => (intOf i + 1).toNat)
  case atStart => exact ⟨_, k, bs, Lib.hid (by omega), Nat.le_refl _, rfl, Lib.hid rfl, ⟨sv, (HB.out.set_ 1 _), HO.out.far (HO.out.ne_blk HB.out (by decide)) _, hp⟩, (Kept.refl _ _).setCell (fun _ => hp) _⟩
  case round =>
    obtain ⟨z, j, cur, Hz, hj, rfl, HC, ⟨sv', hblk, hob, _⟩, hkept⟩ := hrel
    have hlen : cur.length + j = bs.length + k := by have := congrArg List.length HC.out; simpa [be_length] using this
    by_cases hz : 0 ≤ z
    · obtain ⟨m, rfl⟩ := Int.eq_ofNat_of_zero_le hz
      obtain rfl : j = m + 1 := by have := Hz.out; omega
      obtain ⟨A, cap, rfl, hcap, _⟩ := Own.form hob
      have c0 : wr.cell? ⟨p, 0, none⟩ = some (.slice A cur.length cap) := hblk.cell 0
      have f0 := hblk.frozen 0
      have HB' := Lib.hid hblk
      have HO' := Lib.hid hob
      have HK' := Lib.hid hkept
      clear hblk hob hkept hcap
      have w8 : IntKind.i64.wrap (8 * (m : Int)) = 8 * (m : Int) := IntWalk.i64_in _ (by omega)
      have hbe : be (m + 1) n = lo8 (n / 2 ^ (8 * (m : Int)).toNat) :: be m n := by
        rw [be, show (8 * (m : Int)).toNat = 8 * m by omega]
      have HBE := Lib.hid hbe
      clear hbe
      have hplt : p < wr.heap.size := HB'.out.lt
      have HN := Lib.hid (HO'.out.ne_blk HB'.out (by decide))
      go_wp2
      go_region_law (refine step_app1 rfl (.tmp 20) (.tmp 26) rfl F (.slice A cur.length cap) cur rfl (Own.drew (Own.alloc HO'.out _)) wr.heap.size (lo8 (n / 2 ^ (8 * (m : Int)).toNat)) rfl (by simp [← lo8_wrap]) (by omega) (HF.out _ (by have := HK'.out.size; simp; omega)) ?_; intro A1 cap1 w1 hown hcap1 hk; have hb1 := Blk.keep (Blk.drew (Blk.alloc HB'.out _)) hk HN.out; have c1 : w1.cell? ⟨p, 0, none⟩ = some (.slice A cur.length cap) := hb1.cell 0; have f1 := hb1.frozen 0; have HB1 := Lib.hid hb1; have HO1 := Lib.hid hown; have HK1 := Lib.hid hk; clear hb1 hown hk)
      all_goals
        go_wp2
        go_roundw
        case rel =>
          generalize (n / 2 ^ (8 * (m : Int)).toNat) = q at HBE HO1 HK1
          refine ⟨_, m, cur ++ [lo8 q], Lib.hid (by omega), by omega, rfl, Lib.hid ?_, ⟨_, HB1.out.set_ 0 _, ?_, hp⟩, ?_⟩
          · rw [← HC.out, HBE.out]; simp
          · have h2 := HO1.out.far (p := ⟨p, 0, none⟩) (HO1.out.ne_blk HB1.out (by decide)) (.slice A1 (cur.length + 1) cap1)
            exact h2
          · exact (HK'.out.trans2 (((((Kept.refl (ownS (.slice A cur.length cap)) wr).alloc _).drew).trans HK1.out)) (fun i _ h => (HO'.out.2 i h))).setCell (fun _ => hp) _
        case measure => simp [intOf]
    · have hj0 : j = 0 := by have := Hz.out; omega
      subst hj0
      have HR := Lib.hid (show WrAt wr F p cur 0 ∧ Kept F w wr from ⟨⟨sv', hblk, hob, hp⟩, hkept⟩)
      clear hblk hob hkept
      go_wp2
      go_end0
      have := HC.out
      simp only [be, List.append_nil] at this
      rw [← this]
      exact ⟨rfl, HR.out⟩

set_option maxHeartbeats 400000 in
theorem wLong (n : Int) (w : World) (F : Nat → Prop) (p : Nat) (bs : List UInt8) (bits : Int) (h : WrAt w F p bs bits) (hF : ∀ j, w.heap.size ≤ j → F j) (hn : bs.length ≤ 140737488355000)
    (hlo : -9223372036854775808 ≤ n) (hhi : n ≤ 9223372036854775807) :
    Calls Try.prog 28 #[.pointer (some ⟨p, 0, none⟩), .int .i64 n] w fun e w' => e = .returned (.tuple #[]) ∧ WrAt w' F p (bs ++ be 4 n) 0 ∧ Kept F w w' := by
  have HH := Lib.hid h
  have HF := Lib.hid hF
  clear h hF
  go_enter Try.func28, Try.ntmps28
  go_wp2_with (go_at_call 43; refine (wNumber 4 (by decide) n _ F p bs bits HH.out HF.out hn hlo hhi).mono ?_; rintro e w' ⟨rfl, hq⟩)
  go_end0
  exact ⟨rfl, hq⟩

set_option maxHeartbeats 400000 in
theorem sClone (A : Option Addr) (c : Nat) (xs : List UInt8) (F : Nat → Prop) (w : World) (hx : RB w F A xs) (hA : A = none → xs = [] ∧ c = 0) (hn : xs.length ≤ 140737488355328) :
    Calls Try.prog 42 #[.slice A xs.length c] w fun e w' => ∃ v, e = .returned v ∧ OB w' (w.heap.size ≤ ·) v xs ∧ Kept noneS w w' := by
  have hnil := fun W => run_isnil (P := Try.prog) W 23 5 Try.underlying23
  rcases A with _ | ad
  · obtain ⟨rfl, rfl⟩ := hA rfl
    go_enter Try.func42, Try.ntmps42
    go_wp2
    go_ret
    exact ⟨_, rfl, Own.nil _ _ _ _, Kept.refl _ _⟩
  · have HX := Lib.hid hx
    clear hx hA
    go_enter Try.func42, Try.ntmps42
    go_wp2_with (at_builtin; refine wpList_appN rfl (.tmp 5) (.tmp 6) rfl (w.heap.size ≤ ·) F (.slice (some ⟨w.heap.size, 0, none⟩) 0 0) [] rfl (Own.empty _ _ _ _ (Nat.le_refl _)) (some ad) c xs rfl (HX.out.alloc _) (by simp; omega) (by simp) ?_; intro A1 cap1 w1 hown hcap1 hk; have HO1 := Lib.hid hown; have HK1 := Lib.hid hk; clear hown hk)
    go_ret
    refine ⟨.slice A1 xs.length cap1, rfl, by simpa using HO1.out, ((Kept.refl noneS w).alloc _).trans2 HK1.out ?_⟩
    intro k h1 h2
    have h3 : w.heap.size = k := by simpa [ownS, Value.ownBlock] using h2
    exfalso
    omega

set_option maxHeartbeats 400000 in
theorem wRaw (A : Option Addr) (c : Nat) (xs : List UInt8) (G : Nat → Prop) (w : World) (F : Nat → Prop) (p : Nat) (bs : List UInt8) (bits : Int) (h : WrAt w F p bs bits) (hF : ∀ j, w.heap.size ≤ j → F j)
    (hx : RB w G A xs) (hd : ∀ k, F k → G k → False) (hn : bs.length + xs.length ≤ 140737488355000) :
    Calls Try.prog 29 #[.pointer (some ⟨p, 0, none⟩), .slice A xs.length c] w fun e w' => e = .returned (.tuple #[]) ∧ WrAt w' F p (bs ++ xs) 0 ∧ Kept F w w' := by
  obtain ⟨sv, hblk, hob, hp⟩ := h
  obtain ⟨A0, cap, rfl, hcap, _⟩ := Own.form hob
  have h0 : w.cell? ⟨p, 0, none⟩ = some (.slice A0 bs.length cap) := hblk.cell 0
  have h1 : w.cell? ⟨p, 1, none⟩ = some (.int .i64 bits) := hblk.cell 1
  have f0 := hblk.frozen 0
  have f1 := hblk.frozen 1
  have HB := Lib.hid hblk
  have HO := Lib.hid hob
  have HF := Lib.hid hF
  have HX := Lib.hid hx
  have HD := Lib.hid hd
  clear hblk hob hF hcap hx hd
  have HN := Lib.hid (HO.out.ne_blk HB.out (by decide))
  go_enter Try.func29, Try.ntmps29
  go_wp2_with (at_builtin; refine wpList_appN rfl (.tmp 11) (.tmp 12) rfl F G (.slice A0 bs.length cap) bs rfl (Own.far HO.out HN.out _) A c xs rfl (HX.out.keep ((Kept.refl (· = p) w).setCell (fun _ => rfl) _) (fun k _ h1 h2 => HD.out p hp (h2 ▸ h1))) (by omega) (HF.out _ (by simp)) ?_; intro A1 cap1 w1 hown hcap1 hk; have hb1 := Blk.keep (Blk.set_ HB.out 1 _) hk HN.out; have c1 : w1.cell? ⟨p, 0, none⟩ = some (.slice A0 bs.length cap) := hb1.cell 0; have f1 := hb1.frozen 0; have HB1 := Lib.hid hb1; have HO1 := Lib.hid hown; have HK1 := Lib.hid hk; clear hb1 hown hk)
  go_end0
  refine ⟨rfl, ⟨_, HB1.out.set_ 0 _, ?_, hp⟩, ?_⟩
  · have h2 := HO1.out.far (p := ⟨p, 0, none⟩) (HO1.out.ne_blk HB1.out (by decide)) (.slice A1 (bs.length + xs.length) cap1)
    exact h2
  · exact (((Kept.refl F w).setCell (fun _ => hp) _).trans2 HK1.out (fun i _ h => (HO.out.2 i h))).setCell (fun _ => hp) _

set_option maxHeartbeats 400000 in
theorem wBytes (w : World) (F : Nat → Prop) (p : Nat) (bs : List UInt8) (bits : Int) (h : WrAt w F p bs bits) (hn : bs.length ≤ 140737488355328) :
    Calls Try.prog 30 #[.pointer (some ⟨p, 0, none⟩)] w fun e w' => ∃ v, e = .returned v ∧ OB w' (w.heap.size ≤ ·) v bs ∧ Kept noneS w w' := by
  obtain ⟨sv, hblk, hob, hp⟩ := h
  obtain ⟨A0, cap, rfl, hcap, _, hA0⟩ := Own.form hob
  have h0 : w.cell? ⟨p, 0, none⟩ = some (.slice A0 bs.length cap) := hblk.cell 0
  have HA := Lib.hid hA0
  have HO := Lib.hid (Own.rd hob)
  clear hblk hob hcap hA0
  go_enter Try.func30, Try.ntmps30
  go_wp2_with (go_at_call 42; refine (sClone A0 cap bs F w HO.out (fun q => ⟨List.length_eq_zero_iff.1 (HA.out q).1, (HA.out q).2⟩) hn).mono ?_; rintro e w' ⟨v, rfl, hq⟩; have HQ := Lib.hid hq; clear hq)
  go_ret
  exact ⟨_, rfl, HQ.out⟩

end Go.Proofs.Ytkkfifocilnbkaa
