/-
  slices.IndexFunc, ContainsFunc, DeleteFunc at slips, for any predicate.
-/
import Derived.Test.YtchpkonlfjbkeaaBook1
namespace Go.Proofs.Ytchpkonlfjbkeaa
open Go.RowKit

/-- The function value f, with what it captured, answers p in every world that has turned nothing of w0 but S. -/
def Answers (S : Nat → Prop) (w0 : World) (f : Nat) (caps : Array Value) (p : Slip → Bool) : Prop :=
  (∀ (args : Array Value) (W : World), (callFunc f args).run Try.prog W = .ok (.enter f args) W) ∧
  ∀ (s : Slip) (W : World), Kept S w0 W → Calls Try.prog f (#[.agg #[.int .i64 s.tag, .string s.queue, .int .i64 s.seq, .int .i64 s.cons, .bool s.held]] ++ caps) W fun e w' => e = .returned (.bool (p s)) ∧ Kept noneS W w'

/-- The first place where p holds, or -1. -/
def idxOf (l : List Slip) (p : Slip → Bool) : Int := match l.findIdx? p with | some i => (i : Int) | none => -1

set_option maxHeartbeats 400000 in
theorem indexFunc (A : Option Addr) (c : Nat) (l : List Slip) (F : Nat → Prop) (f : Nat) (caps : Array Value) (p : Slip → Bool) (w : World) (hr : Rd w F A (slipRow l)) {S : Nat → Prop} (hf : Answers S w f caps p) (hl : l.length ≤ 9223372036854775807) :
    Calls Try.prog 33 #[.slice A l.length c, .func (.func f) #[] caps] w fun e w' => e = .returned (.int .i64 (idxOf l p)) ∧ Kept noneS w w' := by
  have HR := Lib.hid hr
  have HA := Lib.hid hf
  clear hr hf
  go_enter Try.func33, Try.ntmps33
  go_wp2
  go_loopw [8] (fun i wr => ∃ j : Nat, j ≤ l.length ∧ i = .int .i64 j ∧ Hid (∀ s ∈ l.take j, p s = false) ∧ Kept noneS w wr) (fun i _ => l.length - (intOf i).toNat)
  case atStart => exact ⟨0, Nat.zero_le _, rfl, Lib.hid (fun s hs => by simp at hs), Kept.refl _ _⟩
  case round =>
    obtain ⟨j, hj, rfl, HN, hkept⟩ := hrel
    have HK := Lib.hid hkept
    clear hkept
    by_cases hlt : j < l.length
    · obtain ⟨g, o, rfl, _, c0, c1, c2, c3, c4⟩ := (HR.out.keep HK.out (fun _ _ _ q => q.elim)).slip hlt
      have HTk := Lib.hid (List.take_succ_eq_append_getElem hlt)
      have hcf := HA.out.1
      have HFi : Hid (p l[j] = true → idxOf l p = (j : Int)) := Lib.hid (fun h => by
        suffices hs : l.findIdx? p = some j by unfold idxOf; rw [hs]
        rw [List.findIdx?_eq_some_iff_getElem]
        refine ⟨hlt, h, fun i hi => ?_⟩
        have := HN.out l[i] (by rw [List.mem_take_iff_getElem]; exact ⟨i, by omega, rfl⟩)
        simp [this])
      generalize l[j] = s at c0 c1 c2 c3 c4 HTk HFi
      go_wp2_with fail
      refine (HA.out.2 s wr (HK.out.mono fun _ _ q => q.elim)).mono ?_
      rintro e w1 ⟨rfl, k1⟩
      have K1 := Lib.hid (HK.out.trans k1)
      clear k1 hcf
      by_cases hp : p s = true
      · rw [hp]
        have HI := Lib.hid (HFi.out hp)
        clear hp HFi
        go_wp2
        go_ret
        rw [HI.out]
        exact ⟨rfl, K1.out⟩
      · have hp' : p s = false := by simpa using hp
        have HP := Lib.hid hp'
        rw [hp']
        clear hp hp' HFi
        go_wp2
        go_roundw
        case rel => exact ⟨j + 1, by omega, by go_num, Lib.hid (fun x hx => by
          rw [HTk.out] at hx
          rcases List.mem_append.1 hx with h | h
          · exact HN.out x h
          · simp at h; subst h; exact HP.out), K1.out⟩
        case measure => simp [intOf]; omega
    · have HI : Hid (idxOf l p = -1) := Lib.hid (by
        suffices hs : l.findIdx? p = none by unfold idxOf; rw [hs]
        rw [List.findIdx?_eq_none_iff]
        intro x hx
        exact HN.out x (by rw [List.take_of_length_le (by omega)]; exact hx))
      go_wp2
      go_ret
      rw [HI.out]
      exact ⟨rfl, HK.out⟩

theorem containsFunc (A : Option Addr) (c : Nat) (l : List Slip) (F : Nat → Prop) (f : Nat) (caps : Array Value) (p : Slip → Bool) (w : World) (hr : Rd w F A (slipRow l)) {S : Nat → Prop} (hf : Answers S w f caps p) (hl : l.length ≤ 9223372036854775807) :
    Calls Try.prog 21 #[.slice A l.length c, .func (.func f) #[] caps] w fun e w' => e = .returned (.bool (l.any p)) ∧ Kept noneS w w' := by
  have HR := Lib.hid hr
  have HA := Lib.hid hf
  clear hr hf
  have HV : Hid (decide ((0 : Int) ≤ idxOf l p) = l.any p) := Lib.hid (by
    unfold idxOf
    cases h : l.findIdx? p with
    | none =>
      rw [List.findIdx?_eq_none_iff] at h
      have : l.any p = false := by rw [List.any_eq_false]; intro x hx; simp [h x hx]
      rw [this]
      rfl
    | some i =>
      obtain ⟨hi, hp, _⟩ := List.findIdx?_eq_some_iff_getElem.1 h
      have : l.any p = true := List.any_eq_true.2 ⟨l[i], List.getElem_mem hi, hp⟩
      rw [this]
      simp)
  go_enter Try.func21, Try.ntmps21
  go_wp2_with fail
  refine (indexFunc A c l F f caps p w HR.out HA.out hl).mono ?_
  rintro e w1 ⟨rfl, k1⟩
  have K1 := Lib.hid k1
  clear k1
  generalize idxOf l p = z at HV
  go_wp2
  go_ret
  rw [← HV.out]
  exact ⟨rfl, K1.out⟩

end Go.Proofs.Ytchpkonlfjbkeaa
