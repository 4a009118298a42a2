/-
  warrenref04.Parser: drop, Hello.
-/
import Derived.Test.YtkkfifocilnbkaaHello
namespace Go.Proofs.Ytkkfifocilnbkaa
open Go.RowKit

/-- The document's Parser at p. -/
def RPAt (w : World) (F : Nat → Prop) (p : Nat) (bs : List UInt8) (mx : Int) : Prop :=
  F p ∧ ∃ A c, Blk w p 50 #[.slice A bs.length c, .int .i64 mx] ∧ OB w F (.slice A bs.length c) bs

theorem OB.cap {w : World} {F : Nat → Prop} {A : Option Addr} {n c : Nat} {bs : List UInt8} (h : OB w F (.slice A n c) bs) : n ≤ c := by
  obtain ⟨_, _, e0, hc, _⟩ := Own.form h
  injection e0 with _ e1 e0
  omega

theorem RPAt.keep {w w' : World} {F S : Nat → Prop} {p : Nat} {bs : List UInt8} {mx : Int} (h : RPAt w F p bs mx) (hk : Kept S w w') (hd : ∀ k, k < w.heap.size → F k → S k → False) : RPAt w' F p bs mx := by
  obtain ⟨hp, A, c, hb, hs⟩ := h
  exact ⟨hp, A, c, hb.keep hk (fun q => hd p hb.lt hp q), Own.keep hs hk hd⟩

theorem RPAt.stored {w : World} {F : Nat → Prop} {p : Nat} {mx : Int} {bs : List UInt8} {A : Option Addr} {c : Nat} {v : Value} (hp : F p) (hb : Blk w p 50 #[v, .int .i64 mx]) (hs : OB w F (.slice A bs.length c) bs) : RPAt (w.setCell ⟨p, 0, none⟩ (.slice A bs.length c)) F p bs mx :=
  ⟨hp, A, c, hb.set_ 0 _, Own.far hs (p := ⟨p, 0, none⟩) (Own.ne_blk hs hb (by decide)) _⟩

set_option maxHeartbeats 400000 in
theorem refDrop (k : Nat) (mx : Int) (w : World) (F : Nat → Prop) (p : Nat) (bs : List UInt8) (h : RPAt w F p bs mx) (hk : k ≤ bs.length) (hbl : bs.length ≤ 140737488351232) (hF : ∀ k, w.heap.size ≤ k → F k) :
    Calls Try.prog 38 #[.pointer (some ⟨p, 0, none⟩), .int .i64 (k : Int)] w fun e w' => (∃ v, e = .returned v) ∧ RPAt w' F p (bs.drop k) mx ∧ Kept F w w' := by
  obtain ⟨hp, A, c, hb, hs⟩ := h
  have hc : bs.length ≤ c := OB.cap hs
  have c0 : w.cell? ⟨p, 0, none⟩ = some (.slice A bs.length c) := hb.cell 0
  have g1 := fun W => run_slice_from (P := Try.prog) W 23 5 Try.underlying23 infoU8 A bs.length c k hk hc
  have hcut := RB.cut (OB.rb hs).2 (k := k) (cap := c) hc
  have hxl : (bs.drop k).length = bs.length - k := List.length_drop
  rw [← hxl] at g1
  have hxb : (bs.drop k).length ≤ 140737488351232 := by omega
  generalize (if c = k then A else A.map (·.add k)) = A' at g1 hcut
  generalize bs.drop k = xs at g1 hcut hxb ⊢
  have HX := Lib.hid hcut
  have HB := Lib.hid hb
  have HF := Lib.hid hF
  clear hcut hb hs hxl hF
  go_enter Try.func38, Try.ntmps38
  go_wp2_with fail
  refine (refCopy A' (c - k) xs F w HX.out hxb).mono ?_
  rintro e w1 ⟨A1, c1, rfl, o1, k1⟩
  have B1 := Lib.hid (HB.out.keep k1 (fun q => q))
  have d0 : w1.cell? ⟨p, 0, none⟩ = some (.slice A bs.length c) := B1.out.cell 0
  have f0 := B1.out.frozen 0
  have O1 := Lib.hid (Own.mono o1 (G := F) (fun j _ q => HF.out j q))
  have KK := Lib.hid (k1.mono (S' := F) (fun _ _ q => q.elim))
  clear o1 k1
  go_wp2
  go_end0
  exact ⟨⟨_, rfl⟩, RPAt.stored hp B1.out O1.out, KK.out.setCell (p := ⟨p, 0, none⟩) (fun _ => hp) _⟩

def RHelloPost (w : World) (F : Nat → Prop) (p : Nat) (mx : Int) (r : HelloR) (e : Ending) (w' : World) : Prop :=
  e = .returned (.tuple #[.bool r.ok, .int .i64 r.err]) ∧ RPAt w' F p r.rest mx ∧ Kept F w w'

theorem take_succ_eq {a b : List UInt8} {j : Nat} (ha : j < a.length) (hb : j < b.length) (h : a.take j = b.take j) (e : a[j] = b[j]) : a.take (j + 1) = b.take (j + 1) := by
  rw [List.take_succ_eq_append_getElem ha, List.take_succ_eq_append_getElem hb, h, e]

set_option maxHeartbeats 1000000 in
theorem refHelloP (mx : Int) (w : World) (F : Nat → Prop) (p : Nat) (bs : List UInt8) (h : RPAt w F p bs mx) (hbl : bs.length ≤ 140737488351232) (hF : ∀ k, w.heap.size ≤ k → F k) :
    Calls Try.prog 19 #[.pointer (some ⟨p, 0, none⟩)] w (RHelloPost w F p mx (helloOf bs)) := by
  obtain ⟨r, HR⟩ : ∃ r, Hid (helloOf bs = r) := ⟨_, Lib.hid rfl⟩
  rw [HR.out]
  have HH := Lib.hid h
  have hpw := h.2.choose_spec.choose_spec.1.lt
  have HF := Lib.hid hF
  clear h hF
  go_enter Try.func19, Try.ntmps19
  go_wp2_with fail
  refine (refHello w).mono ?_
  rintro e w1 ⟨rfl, rb1, z1, k1⟩
  have RB1 := Lib.hid rb1
  have HH1 := Lib.hid (HH.out.keep k1 (fun _ _ _ q => q.elim))
  have KK1 := Lib.hid k1
  clear rb1 k1
  generalize hh0 : w.heap.size = h0 at RB1 z1 ⊢
  have HH0 := Lib.hid hh0
  clear hh0
  go_wp2
  go_loopw [5] (fun i wr => ∃ j : Nat, j ≤ bs.length ∧ j ≤ 8 ∧ i = .int .i64 j ∧ Hid (bs.take j = helloBs.take j) ∧ Kept noneS w1 wr) (fun i _ => 8 - (intOf i).toNat)
  case atStart => exact ⟨0, Nat.zero_le _, by decide, rfl, Lib.hid rfl, Kept.refl _ _⟩
  case round =>
    obtain ⟨j, hj, hj8, rfl, HT, hk⟩ := hrel
    have HKr := Lib.hid hk
    have HRp := Lib.hid (HH1.out.keep hk (fun _ _ _ q => q.elim))
    have RBr := Lib.hid (RB1.out.still hk)
    clear hk
    obtain ⟨hp, A, c, hb, hs⟩ := HRp.out
    have c0 : wr.cell? ⟨p, 0, none⟩ = some (.slice A bs.length c) := hb.cell 0
    by_cases hlt : j < bs.length
    · by_cases hlt8 : j < 8
      · obtain ⟨g, o, rfl, _, hcell⟩ := RB.at_ (OB.rb hs).2 hlt
        obtain ⟨g', o', hA', _, hcell'⟩ := RB.at_ RBr.out (show j < helloBs.length from hlt8)
        injection hA' with hA'
        injection hA' with e1 e2
        subst e1 e2
        have HTS := Lib.hid (take_succ_eq hlt (show j < helloBs.length from hlt8) HT.out)
        have HNE : Hid (bs[j] ≠ helloBs[j]'hlt8 → bs.take 8 ≠ helloBs.take bs.length) := Lib.hid (fun hne he => hne (by
          have h1 : (bs.take 8)[j]? = (helloBs.take bs.length)[j]? := by rw [he]
          rw [List.getElem?_take, List.getElem?_take, if_pos hlt8, if_pos hlt, List.getElem?_eq_getElem hlt, List.getElem?_eq_getElem (show j < helloBs.length from hlt8)] at h1
          injection h1))
        generalize bs[j] = x at hcell HTS HNE
        generalize helloBs[j]'hlt8 = y at hcell' HTS HNE
        rw [Nat.zero_add] at hcell'
        clear hb hs HRp
        by_cases hxy : x = y
        · subst hxy
          go_wp2
          go_quiet (fail)
          go_wp2
          go_roundw
          case rel => exact ⟨j + 1, by omega, by omega, by go_num, Lib.hid (HTS.out trivial), (HKr.out).drewN _⟩
          case measure => simp [intOf]; omega
        · have q1 : ((x.toNat : Int) != (y.toNat : Int)) = true := by
            simp only [bne_iff_ne, ne_eq]
            intro e
            exact hxy (UInt8.toNat_inj.1 (by omega))
          have hr : r = ⟨false, 40, bs⟩ := by rw [← HR.out]; unfold helloOf; rw [if_pos (HNE.out hxy)]
          subst hr
          clear HR HTS HNE
          go_wp2
          go_quiet (fail)
          go_wp2
          go_ret2
          exact ⟨rfl, HH1.out.keep (HKr.out.drewN _) (fun _ _ _ q => q.elim), (KK1.out.trans (HKr.out.drewN _)).mono (fun _ _ q => q.elim)⟩
      · obtain rfl : j = 8 := by omega
        have hl8 : ¬ bs.length < 8 := by omega
        have hr : r = ⟨true, 0, bs.drop 8⟩ := by
          rw [← HR.out]
          unfold helloOf
          rw [if_neg (fun q => q (by rw [HT.out, List.take_of_length_le (show helloBs.length ≤ bs.length by show 8 ≤ _; omega), List.take_of_length_le (show helloBs.length ≤ 8 by show 8 ≤ 8; omega)])), if_neg hl8]
        subst hr
        clear hb hs HR HT
        go_wp2_with fail
        refine (refDrop 8 mx wr F p bs HRp.out (by omega) hbl (fun k hk => HF.out k (by have := HKr.out.size; have := HH0.out; omega))).mono ?_
        rintro e w3 ⟨⟨v3, rfl⟩, p3, k3⟩
        have P3 := Lib.hid p3
        have K3 := Lib.hid (((KK1.out.trans HKr.out).mono (S' := F) (fun _ _ q => q.elim)).trans k3)
        clear p3 k3
        go_wp2
        go_ret2
        exact ⟨rfl, P3.out, K3.out⟩
    · obtain rfl : j = bs.length := by omega
      have he : bs.take 8 = helloBs.take bs.length := by rw [List.take_of_length_le hj8, ← HT.out, List.take_length]
      by_cases hl8 : bs.length < 8
      · have hr : r = ⟨false, 0, bs⟩ := by rw [← HR.out]; unfold helloOf; rw [if_neg (fun q => q he), if_pos hl8]
        subst hr
        clear hb hs HR HT he
        go_wp2
        go_ret2
        exact ⟨rfl, HRp.out, (KK1.out.trans HKr.out).mono (fun _ _ q => q.elim)⟩
      · have hr : r = ⟨true, 0, bs.drop 8⟩ := by rw [← HR.out]; unfold helloOf; rw [if_neg (fun q => q he), if_neg hl8]
        subst hr
        clear hb hs HR HT he
        go_wp2_with fail
        refine (refDrop 8 mx wr F p bs HRp.out (by omega) hbl (fun k hk => HF.out k (by have := HKr.out.size; have := HH0.out; omega))).mono ?_
        rintro e w3 ⟨⟨v3, rfl⟩, p3, k3⟩
        have P3 := Lib.hid p3
        have K3 := Lib.hid (((KK1.out.trans HKr.out).mono (S' := F) (fun _ _ q => q.elim)).trans k3)
        clear p3 k3
        go_wp2
        go_ret2
        exact ⟨rfl, P3.out, K3.out⟩

end Go.Proofs.Ytkkfifocilnbkaa
