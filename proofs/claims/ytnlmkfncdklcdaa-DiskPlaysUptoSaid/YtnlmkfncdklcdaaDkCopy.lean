/-
  Copies of octets: slices.Clone, warrenref01.Copy, warrenlaw11's clone and same.
-/
import Derived.Test.YtnlmkfncdklcdaaRows
import Derived.Test.YtnlmkfncdklcdaaByt
namespace Go.Proofs.Ytnlmkfncdklcdaa
open Go.RowKit

set_option maxHeartbeats 400000 in
theorem sClone (A : Option Addr) (c : Nat) (xs : List UInt8) (F : Nat → Prop) (w : World) (hx : RB w F A xs) (hA : A = none → xs = [] ∧ c = 0) (hn : xs.length ≤ 140737488355328) :
    Calls Try.prog 30 #[.slice A xs.length c] w fun e w' => ∃ v, e = .returned v ∧ OB w' (w.heap.size ≤ ·) v xs ∧ Kept noneS w w' := by
  have hnil := fun W => run_isnil (P := Try.prog) W 34 5 Try.underlying34
  rcases A with _ | ad
  · obtain ⟨rfl, rfl⟩ := hA rfl
    go_enter Try.func30, Try.ntmps30
    go_wp2
    go_ret
    exact ⟨_, rfl, Own.nil _ _ _ _, Kept.refl _ _⟩
  · have HX := Lib.hid hx
    clear hx hA
    go_enter Try.func30, Try.ntmps30
    go_wp2_with (at_builtin; refine wpList_appN rfl (.tmp 5) (.tmp 6) rfl (w.heap.size ≤ ·) F (.slice (some ⟨w.heap.size, 0, none⟩) 0 0) [] rfl (Own.empty _ _ _ _ (Nat.le_refl _)) (some ad) c xs rfl (HX.out.alloc _) (by simp; omega) (by simp) ?_; intro A1 cap1 w1 hown hcap1 hk; have HO1 := Lib.hid hown; have HK1 := Lib.hid hk; clear hown hk)
    go_ret
    refine ⟨.slice A1 xs.length cap1, rfl, by simpa using HO1.out, ((Kept.refl noneS w).alloc _).trans2 HK1.out ?_⟩
    intro k h1 h2
    have h3 : w.heap.size = k := by simpa [ownS, Value.ownBlock] using h2
    exfalso
    omega

set_option maxHeartbeats 400000 in
theorem refCopyB (A : Option Addr) (c : Nat) (xs : List UInt8) (F : Nat → Prop) (w : World) (hx : RB w F A xs) (hn : xs.length ≤ 140737488351232) :
    Calls Try.prog 29 #[.slice A xs.length c] w fun e w' => ∃ A' c', e = .returned (.slice A' xs.length c') ∧ OB w' (w.heap.size ≤ ·) (.slice A' xs.length c') xs ∧ Kept noneS w w' := by
  have HX := Lib.hid (hx.mono (G := (· < w.heap.size)) fun _ h _ => h)
  clear hx
  go_enter Try.func29, Try.ntmps29
  go_wp2
  go_loopw [3, 4] (fun v i wr => ∃ (j : Nat), j ≤ xs.length ∧ i = .int .i64 j ∧ OB wr (w.heap.size ≤ ·) v (xs.take j) ∧ Kept noneS w wr) (fun _ i _ => xs.length - (intOf i).toNat)
  case atStart => exact ⟨0, Nat.zero_le _, rfl, Own.empty _ _ _ _ (Nat.le_refl _), (Kept.refl _ _).alloc _⟩
  case round =>
    obtain ⟨j, hj, rfl, hob, hkept⟩ := hrel
    have HO := Lib.hid hob
    have HK := Lib.hid hkept
    clear hob hkept
    by_cases hlt : j < xs.length
    · obtain ⟨A0, cap, rfl, _⟩ := Own.form HO.out
      have hl : (xs.take j).length = j := by simp; omega
      have HT := Lib.hid (List.take_succ_eq_append_getElem hlt)
      obtain ⟨g, o, rfl, _, hc⟩ := (HX.out.still HK.out).at_ hlt
      have HC := Lib.hid hc
      generalize xs[j] = b at hc HT HC
      generalize xs.take j = cur at HO hl HT ⊢
      subst hl
      go_wp2_with (at_builtin; refine wpList_app1 rfl (.tmp 12) (.tmp 17) rfl (w.heap.size ≤ ·) (.slice A0 cur.length cap) cur rfl (Own.alloc HO.out _) wr.heap.size b rfl (by simp) (by omega) (by have := HK.out.size; simp; omega) ?_; intro A1 cap1 w1 hown hcap1 hk; have HO1 := Lib.hid hown; have HK1 := Lib.hid hk; clear hown hk)
      go_roundw
      case rel => exact ⟨cur.length + 1, by omega, by go_num, by rw [HT.out]; exact HO1.out, (HK.out.alloc _).trans2 HK1.out (fun i hi h => by have := HO.out.2 i h; omega)⟩
      case measure => simp [intOf]; omega
    · obtain rfl : j = xs.length := by omega
      have hl : (xs.take xs.length) = xs := List.take_length
      rw [hl] at HO
      obtain ⟨A0, cap, rfl, _⟩ := Own.form HO.out
      go_wp2
      go_ret
      exact ⟨A0, cap, rfl, HO.out, HK.out⟩

set_option maxHeartbeats 400000 in
theorem same_any (A B : Option Addr) (c d n m : Nat) (xs ys : List UInt8) (F G : Nat → Prop) (w : World) (hx : RB w F A xs) (hy : RB w G B ys) (hl : xs.length = n) (hm : ys.length = m) :
    Calls Try.prog 22 #[.slice A n c, .slice B m d] w fun e w' => e = .returned (.bool (xs == ys)) ∧ w = w' := by
  subst hl hm
  have h1 := run_str w F A c xs hx
  have h2 := run_str w G B d ys hy
  clear hx hy
  go_enter Try.func22, Try.ntmps22
  go_wp2
  go_ret
  exact ⟨rfl, rfl⟩

set_option maxHeartbeats 400000 in
theorem clone_any (A : Option Addr) (c : Nat) (xs : List UInt8) (F : Nat → Prop) (w : World) (hx : RB w F A xs) (hn : xs.length ≤ 140737488355328) :
    Calls Try.prog 20 #[.slice A xs.length c] w fun e w' => ∃ A' c', e = .returned (.slice A' xs.length c') ∧ OB w' (w.heap.size ≤ ·) (.slice A' xs.length c') xs ∧ Kept noneS w w' := by
  have HX := Lib.hid hx
  clear hx
  go_enter Try.func20, Try.ntmps20
  go_wp2_with (at_builtin; refine wpList_appN rfl (.tmp 3) (.tmp 4) rfl (w.heap.size ≤ ·) F (.slice (some ⟨w.heap.size, 0, none⟩) 0 0) [] rfl (Own.empty _ _ _ _ (Nat.le_refl _)) A c xs rfl (HX.out.alloc _) (by simp; omega) (by simp) ?_; intro A1 cap1 w1 hown hcap1 hk; have HO1 := Lib.hid hown; have HK1 := Lib.hid hk; clear hown hk)
  go_ret
  refine ⟨A1, cap1, rfl, by simpa using HO1.out, ((Kept.refl noneS w).alloc _).trans2 HK1.out ?_⟩
  intro k h1 h2
  have h3 : w.heap.size = k := by simpa [ownS, Value.ownBlock] using h2
  exfalso
  omega

end Go.Proofs.Ytnlmkfncdklcdaa
