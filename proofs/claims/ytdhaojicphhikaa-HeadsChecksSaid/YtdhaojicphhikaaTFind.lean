/-
  Tables: warrenref03.Find.
-/
import Derived.Test.YtdhaojicphhikaaRows
import Derived.Test.YtdhaojicphhikaaMem
import Derived.Test.YtdhaojicphhikaaTree
namespace Go.Proofs.Ytdhaojicphhikaa
open Go.RowKit

/-- The place of a name, -1 for none. -/
def findT (t : List FF) (name : ByteArray) : Int := match t.findIdx? (fun f => f.name.toList == name.toList) with | some i => (i : Int) | none => -1

theorem findIdx_at {α : Type} {p : α → Bool} : ∀ (l : List α) (j : Nat) (hj : j < l.length), (∀ k (h : k < j), p (l[k]'(by omega)) = false) → p l[j] = true → l.findIdx? p = some j := by
  intro l j hj h1 h2
  rw [List.findIdx?_eq_some_iff_getElem]
  exact ⟨hj, h2, fun k hk => by rw [h1 k hk]; simp⟩
theorem findIdx_none {α : Type} {p : α → Bool} (l : List α) (h : ∀ k (h : k < l.length), p l[k] = false) : l.findIdx? p = none := by
  rw [List.findIdx?_eq_none_iff]
  intro x hx
  obtain ⟨k, hk, rfl⟩ := List.getElem_of_mem hx
  exact h k hk

set_option maxHeartbeats 400000 in
theorem refFind (A : Option Addr) (c : Nat) (t : List FF) (name : ByteArray) (F : Nat → Prop) (w : World) (ht : TAt w F A t) (hl : t.length * 96 ≤ 140737488351232) :
    Calls Try.prog 11 #[.slice A t.length c, .string name] w fun e w' => e = .returned (.int .i64 (findT t name)) ∧ w = w' := by
  have HT := Lib.hid ht
  clear ht
  obtain ⟨r, HR⟩ : ∃ r, Hid (findT t name = r) := ⟨_, Lib.hid rfl⟩
  rw [HR.out]
  go_enter Try.func11, Try.ntmps11
  go_wp2
  go_loop [5] (fun i => ∃ j : Nat, j ≤ t.length ∧ i = .int .i64 j ∧ Hid (∀ k (h : k < j) (h' : k < t.length), ((t[k]).name.toList == name.toList) = false)) (fun i => t.length - (intOf i).toNat)
  case atStart => exact ⟨0, Nat.zero_le _, rfl, Lib.hid (fun k h => by omega)⟩
  case round =>
    obtain ⟨j, hj, rfl, HN⟩ := hrel
    by_cases hlt : j < t.length
    · obtain ⟨g, o, B1, c1, B2, c2, rfl, _, _, _, _, _, d0, _⟩ := HT.out.at_ hlt
      rcases hq : ((t[j]).name.toList == name.toList) with _ | _
      · have HQ := Lib.hid hq
        generalize (t[j]).name = nm at d0 hq
        go_wp2
        go_round
        case rel => exact ⟨j + 1, by omega, by go_num, Lib.hid (fun k h h' => by
          rcases Nat.lt_or_ge k j with hk | hk
          · exact HN.out k hk h'
          · obtain rfl : k = j := by omega
            exact HQ.out)⟩
        case measure => simp [intOf]; omega
      · have hr : r = (j : Int) := by rw [← HR.out]; unfold findT; rw [findIdx_at t j hlt (fun k h => HN.out k h (by omega)) hq]
        subst hr
        clear HR
        generalize (t[j]).name = nm at d0 hq
        go_wp2
        go_ret
        exact ⟨rfl, rfl⟩
    · obtain rfl : j = t.length := by omega
      have hr : r = -1 := by rw [← HR.out]; unfold findT; rw [findIdx_none t (fun k h => HN.out k h h)]
      subst hr
      clear HR
      go_wp2
      go_ret
      exact ⟨rfl, rfl⟩

end Go.Proofs.Ytdhaojicphhikaa
