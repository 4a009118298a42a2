/-
  warrenref11.SameFiles.
-/
import Derived.Test.YtnlmkfncdklcdaaDkFlo
import Derived.Deep.CutRange
namespace Go.Proofs.Ytnlmkfncdklcdaa
open Go.RowKit

def FlS.same (f g : FlS) : Bool := f.name.toList == g.name.toList && f.data == g.data
def sameB : List FlS → List FlS → Bool
  | [], [] => true
  | f :: l, g :: m => f.same g && sameB l m
  | _, _ => false
theorem FlS.same_iff (f g : FlS) : f.same g = true ↔ f = g := by
  unfold FlS.same
  rw [Bool.and_eq_true, beq_iff_eq, beq_iff_eq]
  constructor
  · rintro ⟨h1, h2⟩
    have := name_inj h1
    cases f
    cases g
    simp_all
  · rintro rfl
    exact ⟨rfl, rfl⟩
theorem sameB_iff : ∀ l m : List FlS, sameB l m = true ↔ l = m
  | [], [] => by simp [sameB]
  | [], g :: m => by simp [sameB]
  | f :: l, [] => by simp [sameB]
  | f :: l, g :: m => by rw [sameB, Bool.and_eq_true, FlS.same_iff, sameB_iff l m, List.cons.injEq]
theorem sameB_len : ∀ l m : List FlS, l.length ≠ m.length → sameB l m = false := fun l m h => by
  rcases e : sameB l m with _ | _
  · rfl
  · exact absurd (congrArg List.length ((sameB_iff l m).1 e)) h

set_option maxHeartbeats 1600000 in
theorem sameFiles (A B : Option Addr) (c d n k : Nat) (xs ys : List FlS) (F G : Nat → Prop) (w : World) (hx : FlsAt w F A xs) (hy : FlsAt w G B ys) (hn : xs.length = n) (hk : ys.length = k) (hl : xs.length ≤ 140737488351232) (_hl2 : ys.length ≤ 140737488351232) :
    Calls Try.prog 14 #[.slice A n c, .slice B k d] w fun e w' => e = .returned (.bool (sameB xs ys)) ∧ Kept noneS w w' := by
  subst hn hk
  obtain ⟨r, HR⟩ : ∃ r, Hid (sameB xs ys = r) := ⟨_, Lib.hid rfl⟩
  rw [HR.out]
  have HX := Lib.hid hx
  have HY := Lib.hid hy
  clear hx hy
  by_cases hlen : xs.length = ys.length
  · have hli : ((xs.length : Int) != (ys.length : Int)) = false := by simp [hlen]
    have HL := Lib.hid hlen
    clear hlen
    go_enter Try.func14, Try.ntmps14
    go_wp2
    go_loopw [4, 5] (fun v i wr => ∃ j : Nat, j ≤ xs.length ∧ i = .int .i64 j ∧ v = .bool false ∧ Hid (sameB (xs.drop j) (ys.drop j) = r) ∧ Hid (Kept noneS w wr)) (fun _ i _ => xs.length - (intOf i).toNat)
    case atStart => exact ⟨0, Nat.zero_le _, rfl, rfl, HR, Lib.hid (Kept.refl _ _)⟩
    case round =>
      obtain ⟨j, hj, rfl, rfl, HE, HK⟩ := hrel
      by_cases hlt : j < xs.length
      · have hlt2 : j < ys.length := by rw [← HL.out]; exact hlt
        obtain ⟨g, o, B1, d1, rfl, _, ⟨a1, a2⟩, ⟨b1, b2, b3, b4⟩, q0, q1⟩ := (HX.out.still HK.out).at_ hlt
        obtain ⟨g', o', B2, d2, rfl, _, ⟨a3, a4⟩, ⟨b5, b6, b7, b8⟩, q2, q3⟩ := (HY.out.still HK.out).at_ hlt2
        have hE := HE.out
        rw [List.drop_eq_getElem_cons hlt, List.drop_eq_getElem_cons hlt2, sameB] at hE
        generalize xs[j] = f at *
        generalize ys[j] = h at *
        have HE2 := Lib.hid hE
        have g1 := fun m => run_str (wr.drewN m) _ B1 d1 f.data (b1.drewN m)
        have g2 := fun m => run_str (wr.drewN m) _ B2 d2 h.data (b5.drewN m)
        have hji : (j : Int) < (xs.length : Int) := by omega
        have hji2 : (j : Int) < (ys.length : Int) := by omega
        have hj0 : (0 : Int) ≤ (j : Int) := by omega
        clear hE HE b1 b5 b4 b8
        by_cases hname : f.name.toList = h.name.toList
        · have hn1 : (f.name.toList == h.name.toList) = true := by simpa using hname
          by_cases hdata : f.data = h.data
          · have hd1 : (f.data == h.data) = true := by simpa using hdata
            have hs : f.same h = true := by unfold FlS.same; rw [hn1, hd1]; rfl
            rw [hs, Bool.true_and] at HE2
            clear hname hdata hs
            go_wp2_with fail
            go_quiet (fail)
            go_wp2
            go_roundw
            case rel => exact ⟨j + 1, by omega, by go_num, rfl, HE2, Lib.hid (HK.out.drewN _)⟩
            case measure => simp [intOf]; omega
          · have hd1 : (f.data == h.data) = false := by simpa using hdata
            have hs : f.same h = false := by unfold FlS.same; rw [hn1, hd1]; rfl
            rw [hs, Bool.false_and] at HE2
            have hr : r = false := HE2.out.symm
            clear hname hdata hs
            subst hr
            go_wp2_with fail
            go_quiet (fail)
            go_wp2
            go_ret
            exact ⟨rfl, HK.out.drewN _⟩
        · have hn1 : (f.name.toList == h.name.toList) = false := by simpa using hname
          have hs : f.same h = false := by unfold FlS.same; rw [hn1]; rfl
          rw [hs, Bool.false_and] at HE2
          have hr : r = false := HE2.out.symm
          clear hname hs
          subst hr
          go_wp2_with fail
          go_quiet (fail)
          go_wp2
          go_ret
          exact ⟨rfl, HK.out.drewN _⟩
      · obtain rfl : j = xs.length := by omega
        have hE := HE.out
        rw [List.drop_length, HL.out, List.drop_length] at hE
        have hr : r = true := hE.symm
        clear hE HE
        subst hr
        go_wp2
        go_ret
        exact ⟨rfl, HK.out⟩
  · have hli : ((xs.length : Int) != (ys.length : Int)) = true := by simpa using fun q => hlen (by omega)
    have hr : r = false := HR.out.symm.trans (sameB_len xs ys hlen)
    clear hlen
    subst hr
    go_enter Try.func14, Try.ntmps14
    go_wp2
    go_ret
    exact ⟨rfl, Kept.refl _ _⟩

end Go.Proofs.Ytnlmkfncdklcdaa
